/-
  'Content' OF NO WHOLE SHEET, AND 'sheet.Same'; by the author of this claim, in the calculus of runs. | 'Live' OF NO WHOLE SHEET tells nothing; by the author of this claim, in the calculus of runs. | A ROUND OF THE LAW's LOOP, region by region; printed by the author's gen_z.py, in the calculus of runs. | THE LAW's LOOP AND ITS END; by the author of this claim, in the calculus of runs. | TWO CELLS THAT ARE THE SAME ARE EQUAL; by the author of this claim.
-/
import Derived.Test.YtpfagdkpolhopaaGreatDoorSnE
import Derived.Test.YtpfagdkpolhopaaGreatDoorEvGF
import Derived.KernelRfl
namespace Go.Proofs.YtpfagdkpolhopaaGreatDoor.sheetNew
open Go Go.Proofs.YtpfagdkpolhopaaGreatDoor.Ev

set_option maxHeartbeats 8000000 in
set_option maxRecDepth 20000 in
theorem contentN (Γ : Glob) (h : Hp) (tv : SV) (z : Value) (hz : ZC z) (hw : Nw Γ tv h) : Runs Tryz.prog Γ (.call 11 [tv, .lit (.int .i64 0), .lit (.int .i64 0)] h) fun r => r.v = .agg (SV.cells (.lit z)) ∧ Kept h.next h r.hp := by
  have hk0 : Kept h.next h ⟨h.objs.set h.next (.cells (SV.cells (.lit z)) 60), h.next + 1⟩ := ⟨Nat.le_succ _, fun _ hb => get_ne (Nat.ne_of_lt hb)⟩
  have hcell := cellN Γ ⟨h.objs.set h.next (.cells (SV.cells (.lit z)) 60), h.next + 1⟩ tv (hw.kept hk0)
  have hz0 := hz.zero
  refine runs_call Tryz.func11 rfl ?_
  refine runs_seq (runs_region ?_)
  refine ops_effect (v := .ptr h.next 0) (hp' := ⟨h.objs.set h.next (.cells (SV.cells (.lit z)) 60), h.next + 1⟩) rfl rfl rfl (by simp only [effect, hz0]; rfl) (Nat.le_succ _) rfl ?_
  refine ops_nil ?_
  refine runs_seq (runs_region ?_)
  refine ops_quiet (v := tv) (fs := []) rfl rfl rfl ?_
  refine ops_quiet rfl rfl rfl ?_
  refine ops_quiet rfl rfl rfl ?_
  refine ops_call (f := 9) (args := [tv, .lit (.int .i64 0), .lit (.int .i64 0)]) rfl rfl rfl (clone_none Tryz.func9 rfl) ?_
  refine hcell.mono ?_
  rintro ⟨ex, fr, h2, v⟩ ⟨hv, hk2⟩
  have hv : v = .tuple [.agg zcell, .lit (.bool false)] := hv
  subst hv
  have hk2 : Kept (h.next + 1) ⟨h.objs.set h.next (.cells (SV.cells (.lit z)) 60), h.next + 1⟩ h2 := hk2
  have hn2 : h.next < h2.next := hk2.next
  have hY2 : h2.objs.get h.next = some (.cells (SV.cells (.lit z)) 60) := (hk2.old h.next (Nat.lt_succ_self _)).trans get_same
  have hne : h.next ≠ h2.next := Nat.ne_of_lt hn2
  have hY3 : ((h2.objs.set h2.next (.cells zcell 45)).set h2.next (.cells zcell 45)).get h.next = some (.cells (SV.cells (.lit z)) 60) := (get_ne hne).trans ((get_ne hne).trans hY2)
  have hlow : ∀ b, b < h.next → b ≠ h2.next := fun b hb => Nat.ne_of_lt (Nat.lt_trans hb hn2)
  have hle : h.next ≤ h2.next + 1 := Nat.le_of_lt (Nat.lt_succ_of_lt hn2)
  have hfin : Kept h.next h ⟨((h2.objs.set h2.next (.cells zcell 45)).set h2.next (.cells zcell 45)).set h.next (.cells (SV.cells (.lit z)) 60), h2.next + 1⟩ := ⟨hle, fun b hb => (get_ne (Nat.ne_of_lt hb)).trans ((get_ne (hlow b hb)).trans ((get_ne (hlow b hb)).trans ((hk2.old b (Nat.lt_succ_of_lt hb)).trans (get_ne (Nat.ne_of_lt hb)))))⟩
  refine ⟨_, rfl, ?_⟩
  refine ops_quiet rfl rfl rfl ?_
  refine ops_quiet (v := .agg zcell) (fs := []) rfl rfl rfl ?_
  refine ops_quiet (v := .lit (.bool false)) (fs := []) rfl rfl rfl ?_
  refine ops_effect (v := .ptr h2.next 0) (hp' := ⟨h2.objs.set h2.next (.cells zcell 45), h2.next + 1⟩) rfl rfl rfl rfl (Nat.le_succ _) rfl ?_
  refine ops_effect (v := .lit undef) (hp' := ⟨(h2.objs.set h2.next (.cells zcell 45)).set h2.next (.cells zcell 45), h2.next + 1⟩) rfl rfl rfl (store_eff (n := 4) (v := .agg zcell) (l := zcell) rfl rfl rfl rfl get_same rfl) (Nat.le_refl _) rfl ?_
  refine ops_quiet (v := .lit (.bool false)) (fs := []) rfl rfl rfl ?_
  refine ops_nil ?_
  refine runs_seq (runs_seq (runs_region ?_))
  refine ops_quiet (v := .lit (.bool false)) (fs := []) rfl rfl rfl ?_
  refine ops_quiet (v := .lit (.bool true)) (fs := []) rfl rfl rfl ?_
  refine ops_nil ?_
  refine runs_cond true rfl ?_
  refine runs_seq (runs_region ?_)
  refine ops_quiet (v := .agg (SV.cells (.lit z))) (fs := []) rfl (congrArg one hz.build) rfl ?_
  refine ops_effect (v := .lit undef) (hp' := ⟨((h2.objs.set h2.next (.cells zcell 45)).set h2.next (.cells zcell 45)).set h.next (.cells (SV.cells (.lit z)) 60), h2.next + 1⟩) rfl rfl rfl (store_eff (n := 29) (v := .agg (SV.cells (.lit z))) (l := SV.cells (.lit z)) rfl rfl rfl hz.len hY3 (splice_all hz.len hz.len hz.one)) (Nat.le_refl _) rfl ?_
  refine ops_nil ?_
  refine runs_ret ?_
  have hl := load_all (P := Tryz.prog) (Γ := Γ) (h := ⟨((h2.objs.set h2.next (.cells zcell 45)).set h2.next (.cells zcell 45)).set h.next (.cells (SV.cells (.lit z)) 60), h2.next + 1⟩) tyAggContent tySizeContent get_same hz.len
  exact ⟨_, leave_cell rfl rfl rfl hl, rfl, hfin⟩

set_option maxHeartbeats 8000000 in
set_option maxRecDepth 20000 in
theorem same_nils (Γ : Glob) (h : Hp) : Runs Tryz.prog Γ (.call 17 [.lit (.pointer none), .lit (.pointer none)] h) fun r => r.v = .lit (.bool true) ∧ r.hp = h := by
  refine runs_call Tryz.func17 rfl ?_
  refine runs_seq (runs_region ?_)
  refine ops_quiet rfl rfl rfl ?_
  refine ops_nil ?_
  refine runs_seq (runs_seq (runs_region ?_))
  refine ops_quiet (v := .lit (.pointer none)) (fs := []) rfl rfl rfl ?_
  refine ops_quiet (v := .lit (.bool true)) (fs := []) rfl rfl rfl ?_
  refine ops_quiet (v := .lit (.bool true)) (fs := []) rfl rfl rfl ?_
  refine ops_quiet (v := .lit (.pointer none)) (fs := []) rfl rfl rfl ?_
  refine ops_quiet (v := .lit (.bool true)) (fs := []) rfl rfl rfl ?_
  refine ops_quiet (v := .lit (.bool true)) (fs := []) rfl rfl rfl ?_
  refine ops_nil ?_
  refine runs_cond true rfl ?_
  refine runs_seq (runs_region ?_)
  refine ops_quiet rfl rfl rfl ?_
  refine ops_nil ?_
  refine runs_ret ?_
  exact ⟨_, rfl, rfl, rfl⟩

set_option maxHeartbeats 8000000 in
set_option maxRecDepth 20000 in
/-- None, and a sheet. -/
theorem same_nil (Γ : Glob) (h : Hp) (S : Nat) : Runs Tryz.prog Γ (.call 17 [.lit (.pointer none), .ptr S 0] h) fun r => r.v = .lit (.bool false) ∧ r.hp = h := by
  have hw0 := (nw_nil Γ h).here
  refine runs_call Tryz.func17 rfl ?_
  refine runs_seq (runs_region ?_)
  refine ops_quiet rfl rfl rfl ?_
  refine ops_nil ?_
  refine runs_seq (runs_seq (runs_region ?_))
  refine ops_quiet (v := .lit (.pointer none)) (fs := []) rfl rfl rfl ?_
  refine ops_quiet (v := .lit (.bool true)) (fs := []) rfl rfl rfl ?_
  refine ops_quiet (v := .lit (.bool true)) (fs := []) rfl rfl rfl ?_
  refine ops_quiet (v := .ptr S 0) (fs := []) rfl rfl rfl ?_
  refine ops_quiet (v := .lit (.bool false)) (fs := []) rfl rfl rfl ?_
  refine ops_quiet (v := .lit (.bool false)) (fs := []) rfl rfl rfl ?_
  refine ops_nil ?_
  refine runs_cond false rfl (runs_skip ?_)
  refine runs_seq (runs_seq (runs_region ?_))
  refine ops_quiet (v := .lit (.pointer none)) (fs := []) rfl rfl rfl ?_
  refine ops_call (f := 26) (args := [.lit (.pointer none)]) rfl rfl rfl rfl ?_
  refine hw0.mono ?_
  rintro ⟨ex, fr, hp, v⟩ ⟨hv, hhp⟩
  have hv : v = .lit (.bool false) := hv
  have hhp : hp = h := hhp
  subst hv
  refine ⟨_, rfl, ?_⟩
  refine ops_quiet (v := .lit (.bool true)) (fs := []) rfl rfl rfl ?_
  refine ops_quiet (v := .lit (.bool true)) (fs := []) rfl rfl rfl ?_
  refine ops_unwanted rfl rfl ?_
  refine ops_unwanted rfl rfl ?_
  refine ops_unwanted rfl rfl ?_
  refine ops_quiet (v := .lit (.bool true)) (fs := []) rfl rfl rfl ?_
  refine ops_nil ?_
  refine runs_cond true rfl ?_
  refine runs_seq (runs_region ?_)
  refine ops_quiet rfl rfl rfl ?_
  refine ops_nil ?_
  refine runs_ret ?_
  exact ⟨_, rfl, rfl, hhp⟩

set_option maxHeartbeats 8000000 in
set_option maxRecDepth 20000 in
/-- A half one, and any. -/
theorem same_half (Γ : Glob) (h : Hp) (S : Nat) (x : SV) (hw : Nw Γ (.ptr S 0) h) : Runs Tryz.prog Γ (.call 17 [.ptr S 0, x] h) fun r => r.v = .lit (.bool false) ∧ r.hp = h := by
  have hw0 := hw.here
  refine runs_call Tryz.func17 rfl ?_
  refine runs_seq (runs_region ?_)
  refine ops_quiet rfl rfl rfl ?_
  refine ops_nil ?_
  refine runs_seq (runs_seq (runs_region ?_))
  refine ops_quiet (v := .ptr S 0) (fs := []) rfl rfl rfl ?_
  refine ops_quiet (v := .lit (.bool false)) (fs := []) rfl rfl rfl ?_
  refine ops_quiet (v := .lit (.bool false)) (fs := []) rfl rfl rfl ?_
  refine ops_unwanted rfl rfl ?_
  refine ops_unwanted rfl rfl ?_
  refine ops_quiet (v := .lit (.bool false)) (fs := []) rfl rfl rfl ?_
  refine ops_nil ?_
  refine runs_cond false rfl (runs_skip ?_)
  refine runs_seq (runs_seq (runs_region ?_))
  refine ops_quiet (v := .ptr S 0) (fs := []) rfl rfl rfl ?_
  refine ops_call (f := 26) (args := [.ptr S 0]) rfl rfl rfl rfl ?_
  refine hw0.mono ?_
  rintro ⟨ex, fr, hp, v⟩ ⟨hv, hhp⟩
  have hv : v = .lit (.bool false) := hv
  have hhp : hp = h := hhp
  subst hv
  refine ⟨_, rfl, ?_⟩
  refine ops_quiet (v := .lit (.bool true)) (fs := []) rfl rfl rfl ?_
  refine ops_quiet (v := .lit (.bool true)) (fs := []) rfl rfl rfl ?_
  refine ops_unwanted rfl rfl ?_
  refine ops_unwanted rfl rfl ?_
  refine ops_unwanted rfl rfl ?_
  refine ops_quiet (v := .lit (.bool true)) (fs := []) rfl rfl rfl ?_
  refine ops_nil ?_
  refine runs_cond true rfl ?_
  refine runs_seq (runs_region ?_)
  refine ops_quiet rfl rfl rfl ?_
  refine ops_nil ?_
  refine runs_ret ?_
  exact ⟨_, rfl, rfl, hhp⟩

set_option maxHeartbeats 8000000 in
set_option maxRecDepth 20000 in
/-- A whole one, and none or a half one. -/
theorem same_whole (Γ : Glob) (h : Hp) (S A1 A2 C N : Nat) (x : SV) (hS : h.objs.get S = some (.cells (shC A1 A2 C N) 40)) (hw : Nw Γ x h) : Runs Tryz.prog Γ (.call 17 [.ptr S 0, x] h) fun r => r.v = .lit (.bool false) ∧ r.hp = h := by
  have hw0 := hw.here
  have hw1 := whole_runs Γ h S A1 A2 C N hS
  refine runs_call Tryz.func17 rfl ?_
  refine runs_seq (runs_region ?_)
  refine ops_quiet rfl rfl rfl ?_
  refine ops_nil ?_
  refine runs_seq (runs_seq (runs_region ?_))
  refine ops_quiet (v := .ptr S 0) (fs := []) rfl rfl rfl ?_
  refine ops_quiet (v := .lit (.bool false)) (fs := []) rfl rfl rfl ?_
  refine ops_quiet (v := .lit (.bool false)) (fs := []) rfl rfl rfl ?_
  refine ops_unwanted rfl rfl ?_
  refine ops_unwanted rfl rfl ?_
  refine ops_quiet (v := .lit (.bool false)) (fs := []) rfl rfl rfl ?_
  refine ops_nil ?_
  refine runs_cond false rfl (runs_skip ?_)
  refine runs_seq (runs_seq (runs_region ?_))
  refine ops_quiet (v := .ptr S 0) (fs := []) rfl rfl rfl ?_
  refine ops_call (f := 26) (args := [.ptr S 0]) rfl rfl rfl rfl ?_
  refine hw1.mono ?_
  rintro ⟨ex, fr, h1, v⟩ ⟨hv, hh1⟩
  have hv : v = .lit (.bool true) := hv
  have hh1' : h = h1 := Eq.symm hh1
  subst hv hh1'
  refine ⟨_, rfl, ?_⟩
  refine ops_quiet (v := .lit (.bool false)) (fs := []) rfl rfl rfl ?_
  refine ops_quiet (v := .lit (.bool false)) (fs := []) rfl rfl rfl ?_
  refine ops_quiet (v := x) (fs := []) rfl rfl rfl ?_
  refine ops_call (f := 26) (args := [x]) rfl rfl rfl (clone_none Tryz.func26 rfl) ?_
  refine hw0.mono ?_
  rintro ⟨ex2, fr2, h2, v2⟩ ⟨hv2, hh2⟩
  have hv2 : v2 = .lit (.bool false) := hv2
  subst hv2
  refine ⟨_, rfl, ?_⟩
  refine ops_quiet (v := .lit (.bool true)) (fs := []) rfl rfl rfl ?_
  refine ops_quiet (v := .lit (.bool true)) (fs := []) rfl rfl rfl ?_
  refine ops_nil ?_
  refine runs_cond true rfl ?_
  refine runs_seq (runs_region ?_)
  refine ops_quiet rfl rfl rfl ?_
  refine ops_nil ?_
  refine runs_ret ?_
  exact ⟨_, rfl, rfl, hh2⟩
end Go.Proofs.YtpfagdkpolhopaaGreatDoor.sheetNew
namespace Go.Proofs.YtpfagdkpolhopaaGreatDoor.sheetNew
open Go Go.Proofs.YtpfagdkpolhopaaGreatDoor.Ev

theorem box_one {P : Program} {Γ : Glob} {h : Hp} {ρ : Operand → SV} {e : TypeId} {x : Operand} {tv : SV} (hx : ρ x = tv) (ho : SV.one tv = true) : effect P Γ h ρ (.box e x) = some [(.ptr h.next 0, ⟨h.objs.set h.next (.cells [tv] e), h.next + 1⟩)] := by
  simp only [effect, hx, cells_one ho, Hp.new]

set_option maxHeartbeats 8000000 in
set_option maxRecDepth 20000 in
theorem readN (Γ : Glob) (h : Hp) (tv : SV) (ho : SV.one tv = true) (hw : Nw Γ tv h) : Runs Tryz.prog Γ (.call 35 [tv] h) fun r => r.v = .lit (.slice none 0 0) ∧ Kept h.next h r.hp := by
  have hw0 := hw.new (.cells [tv] 23)
  have hfin : Kept h.next h ⟨h.objs.set h.next (.cells [tv] 23), h.next + 1⟩ := ⟨Nat.le_succ _, fun _ hb => get_ne (Nat.ne_of_lt hb)⟩
  have hl : loadQ Tryz.prog Γ ⟨h.objs.set h.next (.cells [tv] 23), h.next + 1⟩ 23 (.ptr h.next 0) = some (tv, [.cells h.next 0 [tv]]) := load_cell rfl get_same rfl
  refine runs_call Tryz.func35 rfl ?_
  refine runs_seq (runs_region ?_)
  refine ops_effect (v := .ptr h.next 0) (hp' := ⟨h.objs.set h.next (.cells [tv] 23), h.next + 1⟩) rfl rfl rfl (box_one rfl ho) (Nat.le_succ _) rfl ?_
  refine ops_quiet rfl rfl rfl ?_
  refine ops_nil ?_
  refine runs_seq (runs_seq (runs_region ?_))
  refine ops_quiet (v := tv) (fs := [.cells h.next 0 [tv]]) rfl (by simp only [quiet, ev_set]; exact hl) rfl ?_
  refine ops_call (f := 26) (args := [tv]) rfl rfl rfl (clone_none Tryz.func26 rfl) ?_
  refine hw0.mono ?_
  rintro ⟨ex, fr, hp, v⟩ ⟨hv, hhp⟩
  have hv : v = .lit (.bool false) := hv
  have hhp : hp = ⟨h.objs.set h.next (.cells [tv] 23), h.next + 1⟩ := hhp
  subst hv hhp
  refine ⟨_, rfl, ?_⟩
  refine ops_quiet (v := .lit (.bool true)) (fs := []) rfl rfl rfl ?_
  refine ops_nil ?_
  refine runs_cond true rfl ?_
  refine runs_seq (runs_region ?_)
  refine ops_quiet rfl rfl rfl ?_
  refine ops_nil ?_
  refine runs_ret ?_
  exact ⟨_, rfl, rfl, hfin⟩

set_option maxHeartbeats 8000000 in
set_option maxRecDepth 20000 in
theorem liveN (Γ : Glob) (h : Hp) (tv : SV) (ho : SV.one tv = true) : Runs Tryz.prog Γ (.call 15 [tv] h) fun r => r.v = .func (.func 34) [] [.ptr h.next 0] ∧ r.hp = ⟨h.objs.set h.next (.cells [tv] 23), h.next + 1⟩ := by
  refine runs_call Tryz.func15 rfl ?_
  refine runs_seq (runs_region ?_)
  refine ops_effect (v := .ptr h.next 0) (hp' := ⟨h.objs.set h.next (.cells [tv] 23), h.next + 1⟩) rfl rfl rfl (box_one rfl ho) (Nat.le_succ _) rfl ?_
  refine ops_quiet rfl rfl rfl ?_
  refine ops_nil ?_
  refine runs_seq (runs_region ?_)
  refine ops_quiet rfl rfl rfl ?_
  refine ops_quiet rfl rfl rfl ?_
  refine ops_nil ?_
  refine runs_ret ?_
  exact ⟨_, rfl, rfl, rfl⟩

set_option maxHeartbeats 8000000 in
set_option maxRecDepth 20000 in
theorem live1N (Γ : Glob) (h : Hp) (tv : SV) (B b : Nat) (ho : SV.one tv = true) (hB : h.objs.get B = some (.cells [tv] 23)) (hw : Nw Γ tv h) : Runs Tryz.prog Γ (.call 34 [.yield b, .ptr B 0] h) fun r => Kept h.next h r.hp := by
  have hr := readN Γ h tv ho hw
  have hl : loadQ Tryz.prog Γ h 23 (.ptr B 0) = some (tv, [.cells B 0 [tv]]) := load_cell rfl hB rfl
  refine runs_call Tryz.func34 rfl ?_
  refine runs_seq (runs_region ?_)
  refine ops_quiet (v := tv) (fs := [.cells B 0 [tv]]) rfl (by simp only [quiet]; exact hl) rfl ?_
  refine ops_call (f := 35) (args := [tv]) rfl rfl rfl (clone_none Tryz.func35 rfl) ?_
  refine hr.mono ?_
  rintro ⟨ex, fr, hp, v⟩ ⟨hv, hk⟩
  have hv : v = .lit (.slice none 0 0) := hv
  subst hv
  have hk : Kept h.next h hp := hk
  refine ⟨_, rfl, ?_⟩
  refine ops_quiet (v := .lit (.int .i64 0)) (fs := []) rfl rfl rfl ?_
  refine ops_quiet rfl rfl rfl ?_
  refine ops_nil ?_
  refine runs_block ?_
  refine runs_loop ?_
  refine runs_seq (runs_region ?_)
  refine ops_quiet (v := .lit (.bool false)) (fs := []) rfl rfl rfl ?_
  refine ops_nil ?_
  refine runs_seq (runs_cond false rfl (runs_exit ?_))
  exact ⟨_, rfl, hk⟩
end Go.Proofs.YtpfagdkpolhopaaGreatDoor.sheetNew
namespace Go.Proofs.YtpfagdkpolhopaaGreatDoor.sheetNew
open Go Go.Proofs.YtpfagdkpolhopaaGreatDoor.Ev

/-- A normal end with such slots and such a memory. -/
def Nrm (ms : List Nat) (Q : T SV → Hp → Prop) (o : Out) : Prop := ∃ tm' h' v, o = ⟨.normal, ⟨tm', 207, ms⟩, h', v⟩ ∧ Q tm' h'
/-- All other slots are as they were. -/
def Keeps (ws : List Nat) (tm tm' : T SV) : Prop := ∀ (t : Nat) (ms : List Nat), t ∉ ws → Fr.ev ⟨tm', 207, ms⟩ (.tmp t) = Fr.ev ⟨tm, 207, ms⟩ (.tmp t)
theorem nrm_seq {Γ : Glob} {a b : Code} {ro : Option Nat} {fr : Fr} {h : Hp} {ms : List Nat} {Q : T SV → Hp → Prop} {Φ : Out → Prop} (h1 : Runs Tryz.prog Γ (.code a ro fr h) (Nrm ms Q)) (h2 : ∀ tm' h', Q tm' h' → Runs Tryz.prog Γ (.code b ro ⟨tm', 207, ms⟩ h') Φ) : Runs Tryz.prog Γ (.code (.seq a b) ro fr h) Φ :=
  runs_seq (h1.mono fun o ⟨tm', h', v, e, hq⟩ => by subst e; exact h2 tm' h' hq)

noncomputable def body3 : Code := bodyOf Tryz.f3
noncomputable def a5 : Code := seqR (seqR (seqR (seqR (seqR body3))))
noncomputable def a9 : Code := seqR (seqR (seqR (seqR a5)))
noncomputable def a11 : Code := seqR (seqR a9)
noncomputable def loop3 : Code := inLoop (inBlk (seqR (seqL a11)))
theorem textNe : binQ Tryz.prog .neq 9 (.tmp 175) (.const (.string ⟨#[]⟩)) noText (.lit (.string ⟨#[]⟩)) = some (.lit (.bool false)) := by kernel_rfl
noncomputable def round3 : Code := inBlk (seqL (seqR loop3))
noncomputable def b20 : Code := seqR (seqR round3)
noncomputable def r20 : Code := seqL b20
noncomputable def r21 : Code := seqL (seqR b20)
noncomputable def r22 : Code := seqL (seqR (seqR b20))
noncomputable def r23 : Code := seqL (seqL (seqR (seqR (seqR b20))))
noncomputable def rng : Code := seqR (seqL (seqR (seqR (seqR b20))))
noncomputable def r25 : Code := seqL (seqR (seqR (seqR (seqR b20))))

set_option maxHeartbeats 8000000 in
set_option maxRecDepth 20000 in
theorem r20_runs (Γ : Glob) (h : Hp) (tm : T SV) (ms : List Nat) (tv : SV) (hw : Nw Γ tv h) (e22 : Fr.ev ⟨tm, 207, ms⟩ (.tmp 22) = tv) : Runs Tryz.prog Γ (.code r20 none ⟨tm, 207, ms⟩ h) (Nrm ms fun tm' h' => Keeps [140, 141, 139, 142, 143, 23, 24] tm tm' ∧ Fr.ev ⟨tm', 207, ms⟩ (.tmp 24) = .lit (.bool false) ∧ Kept h.next h h') := by
  refine runs_region ?_
  refine ops_quiet (v := tv) (fs := []) rfl (by simp only [quiet, e22]) rfl ?_
  refine ops_call (f := 9) (args := [tv, .lit (.int .i64 0), .lit (.int .i64 0)]) rfl rfl (by simp [calleeOf, ev_set]; rfl) (clone_none Tryz.func9 rfl) ?_
  refine (cellN Γ h tv hw).mono ?_
  rintro ⟨ex1, fr1, h1, v1⟩ ⟨hv1, hk1⟩
  have hv1 : v1 = .tuple [.agg zcell, .lit (.bool false)] := hv1
  subst hv1
  have hk1 : Kept h.next h h1 := hk1
  have hn1 : h.next ≤ h1.next := hk1.next
  refine ⟨_, rfl, ?_⟩
  refine ops_quiet (v := .tuple [.agg zcell, .lit (.bool false)]) (fs := []) rfl rfl rfl ?_
  refine ops_quiet (v := .agg zcell) (fs := []) rfl rfl rfl ?_
  refine ops_quiet (v := .lit (.bool false)) (fs := []) rfl rfl rfl ?_
  refine ops_effect (v := .ptr h1.next 0) (hp' := ⟨h1.objs.set h1.next (.cells zcell 45), h1.next + 1⟩) rfl rfl rfl rfl (Nat.le_succ _) rfl ?_
  refine ops_effect (v := .lit undef) (hp' := ⟨(h1.objs.set h1.next (.cells zcell 45)).set h1.next (.cells zcell 45), h1.next + 1⟩) rfl rfl rfl (store_eff (n := 4) (v := .agg zcell) (l := zcell) rfl (by simp only [ev_set]; rfl) (by simp only [ev_set]; rfl) rfl get_same rfl) (Nat.le_refl _) rfl ?_
  refine ops_quiet (v := .lit (.bool false)) (fs := []) rfl rfl rfl ?_
  refine ops_nil ?_
  refine ⟨_, _, _, rfl, fun t ms ht => by simp only [List.mem_cons, List.not_mem_nil, or_false, not_or] at ht; simp only [ev_set]; simp [ht], by simp only [ev_set]; rfl, ?_⟩
  exact ⟨Nat.le_succ_of_le hn1, fun b hb => (get_ne (Nat.ne_of_lt (Nat.lt_of_lt_of_le hb hn1))).trans ((get_ne (Nat.ne_of_lt (Nat.lt_of_lt_of_le hb hn1))).trans (hk1.old b hb))⟩

set_option maxHeartbeats 8000000 in
set_option maxRecDepth 20000 in
theorem r21_runs (Γ : Glob) (h : Hp) (tm : T SV) (ms : List Nat) (tv : SV) (Y : Nat) (cs : List SV) (hw : Nw Γ tv h) (hY : h.objs.get Y = some (.cells cs 45)) (hl : cs.length = 4) (e22 : Fr.ev ⟨tm, 207, ms⟩ (.tmp 22) = tv) (e17 : Fr.ev ⟨tm, 207, ms⟩ (.tmp 17) = .ptr Y 0) : Runs Tryz.prog Γ (.code r21 none ⟨tm, 207, ms⟩ h) (Nrm ms fun tm' h' => Keeps [145, 146, 147, 144, 148, 149, 150, 25, 26, 27] tm tm' ∧ Fr.ev ⟨tm', 207, ms⟩ (.tmp 27) = .lit (.bool false) ∧ Kept h.next h h') := by
  have hld := load_all (P := Tryz.prog) (Γ := Γ) (h := h) tyAggCell tySizeCell hY hl
  refine runs_region ?_
  refine ops_quiet (v := tv) (fs := []) rfl (by simp only [quiet, e22]) rfl ?_
  refine ops_quiet (v := .agg cs) (fs := [.cells Y 0 cs]) rfl (by simp only [quiet, ev_set, e17]; exact hld) rfl ?_
  refine ops_call (f := 13) (args := [tv, .agg cs]) rfl rfl (by simp [calleeOf, ev_set]; rfl) (clone_none Tryz.func13 rfl) ?_
  refine (placeN Γ h tv cs hw).mono ?_
  rintro ⟨ex1, fr1, h1, v1⟩ ⟨hv1, hk1⟩
  have hv1 : v1 = .tuple [.lit (.int .i64 0), .lit (.int .i64 0), .lit (.bool false)] := hv1
  subst hv1
  refine ⟨_, rfl, ?_⟩
  refine ops_quiet (v := .tuple [.lit (.int .i64 0), .lit (.int .i64 0), .lit (.bool false)]) (fs := []) rfl rfl rfl ?_
  refine ops_quiet (v := .lit (.int .i64 0)) (fs := []) rfl rfl rfl ?_
  refine ops_quiet (v := .lit (.int .i64 0)) (fs := []) rfl rfl rfl ?_
  refine ops_quiet (v := .lit (.bool false)) (fs := []) rfl rfl rfl ?_
  refine ops_quiet (v := .lit (.int .i64 0)) (fs := []) rfl rfl rfl ?_
  refine ops_quiet (v := .lit (.int .i64 0)) (fs := []) rfl rfl rfl ?_
  refine ops_quiet (v := .lit (.bool false)) (fs := []) rfl rfl rfl ?_
  refine ops_nil ?_
  exact ⟨_, _, _, rfl, fun t ms ht => by simp only [List.mem_cons, List.not_mem_nil, or_false, not_or] at ht; simp only [ev_set]; simp [ht], by simp only [ev_set]; rfl, hk1⟩

set_option maxHeartbeats 8000000 in
set_option maxRecDepth 20000 in
theorem r22_runs (Γ : Glob) (h : Hp) (tm : T SV) (ms : List Nat) (tv tx : SV) (hw : Nw Γ tv h) (e22 : Fr.ev ⟨tm, 207, ms⟩ (.tmp 22) = tv) (e4 : Fr.ev ⟨tm, 207, ms⟩ (.tmp 4) = tx) : Runs Tryz.prog Γ (.code r22 none ⟨tm, 207, ms⟩ h) (Nrm ms fun tm' h' => Keeps [152, 153, 154, 151, 155, 156, 28, 29] tm tm' ∧ Fr.ev ⟨tm', 207, ms⟩ (.tmp 28) = .lit (.int .i64 0) ∧ Fr.ev ⟨tm', 207, ms⟩ (.tmp 29) = .lit (.int .i64 1) ∧ h' = h) := by
  refine runs_region ?_
  refine ops_quiet (v := tv) (fs := []) rfl (by simp only [quiet, e22]) rfl ?_
  refine ops_quiet (v := tx) (fs := []) rfl (by simp only [quiet, ev_set, e4]; rfl) rfl ?_
  refine ops_call (f := 14) (args := [tv, .lit (.int .i64 0), .lit (.int .i64 0), tx]) rfl rfl (by simp [calleeOf, ev_set]; rfl) (clone_none Tryz.func14 rfl) ?_
  refine (typeN Γ h tv tx hw).mono ?_
  rintro ⟨ex1, fr1, h1, v1⟩ ⟨hv1, hk1⟩
  have hv1 : v1 = .tuple [.lit (.int .i64 0), .lit (.int .i64 1)] := hv1
  subst hv1
  refine ⟨_, rfl, ?_⟩
  refine ops_quiet (v := .tuple [.lit (.int .i64 0), .lit (.int .i64 1)]) (fs := []) rfl rfl rfl ?_
  refine ops_quiet (v := .lit (.int .i64 0)) (fs := []) rfl rfl rfl ?_
  refine ops_quiet (v := .lit (.int .i64 1)) (fs := []) rfl rfl rfl ?_
  refine ops_quiet (v := .lit (.int .i64 0)) (fs := []) rfl rfl rfl ?_
  refine ops_quiet (v := .lit (.int .i64 1)) (fs := []) rfl rfl rfl ?_
  refine ops_nil ?_
  exact ⟨_, _, _, rfl, fun t ms ht => by simp only [List.mem_cons, List.not_mem_nil, or_false, not_or] at ht; simp only [ev_set]; simp [ht], by simp only [ev_set]; rfl, by simp only [ev_set]; rfl, hk1⟩

set_option maxHeartbeats 8000000 in
set_option maxRecDepth 20000 in
theorem r23_runs (Γ : Glob) (h : Hp) (tm : T SV) (ms : List Nat) (tv : SV) (ho : SV.one tv = true) (e22 : Fr.ev ⟨tm, 207, ms⟩ (.tmp 22) = tv) : Runs Tryz.prog Γ (.code r23 none ⟨tm, 207, ms⟩ h) (Nrm ms fun tm' h' => Keeps [157, 158] tm tm' ∧ Fr.ev ⟨tm', 207, ms⟩ (.tmp 158) = .func (.func 34) [] [.ptr h.next 0] ∧ h' = ⟨h.objs.set h.next (.cells [tv] 23), h.next + 1⟩) := by
  refine runs_region ?_
  refine ops_quiet (v := tv) (fs := []) rfl (by simp only [quiet, e22]) rfl ?_
  refine ops_call (f := 15) (args := [tv]) rfl rfl (by simp [calleeOf, ev_set]; rfl) (clone_none Tryz.func15 rfl) ?_
  refine (liveN Γ h tv ho).mono ?_
  rintro ⟨ex1, fr1, h1, v1⟩ ⟨hv1, hk1⟩
  have hv1 : v1 = .func (.func 34) [] [.ptr h.next 0] := hv1
  subst hv1
  refine ⟨_, rfl, ?_⟩
  refine ops_nil ?_
  exact ⟨_, _, _, rfl, fun t ms ht => by simp only [List.mem_cons, List.not_mem_nil, or_false, not_or] at ht; simp only [ev_set]; simp [ht], by simp only [ev_set]; rfl, hk1⟩

set_option maxHeartbeats 8000000 in
set_option maxRecDepth 20000 in
theorem rng_runs (Γ : Glob) (h : Hp) (tm : T SV) (ms : List Nat) (tv : SV) (B : Nat) (ho : SV.one tv = true) (hB : h.objs.get B = some (.cells [tv] 23)) (hBn : B < h.next) (hw : Nw Γ tv h) (e158 : Fr.ev ⟨tm, 207, ms⟩ (.tmp 158) = .func (.func 34) [] [.ptr B 0]) :
    Runs Tryz.prog Γ (.code rng none ⟨tm, 207, ms⟩ h) (Nrm (h.next :: ms) fun tm' h' => tm' = tm ∧ Kept h.next h h' ∧ h.next < h'.next ∧ h'.objs.get h.next = some (.deferred true)) := by
  have ne1 : h.next ≠ h.next + 1 := by omega
  have hk0 : ∀ l, Kept h.next h ⟨(h.objs.set h.next (.deferred true)).set (h.next + 1) (.loop l), h.next + 2⟩ := fun l => ⟨by show h.next ≤ h.next + 2; omega, fun b hb => (get_ne (by omega)).trans (get_ne (by omega))⟩
  have hlast : ∀ (r : Out) (l l' : ALoop), Kept (h.next + 2) ⟨(h.objs.set h.next (.deferred true)).set (h.next + 1) (.loop l), h.next + 2⟩ r.hp → Kept h.next h (r.hp.upd (h.next + 1) (.loop l')) ∧ h.next < (r.hp.upd (h.next + 1) (.loop l')).next ∧ (r.hp.upd (h.next + 1) (.loop l')).objs.get h.next = some (.deferred true) := fun r l l' hk => by
    have hn : h.next + 2 ≤ r.hp.next := hk.next
    refine ⟨⟨by show h.next ≤ r.hp.next; omega, fun b hb => (get_ne (by omega)).trans ((hk.old b (by omega)).trans ((hk0 l).old b hb))⟩, by show h.next < r.hp.next; omega, ?_⟩
    exact (get_ne ne1).trans ((hk.old _ (by omega)).trans ((get_ne ne1).trans get_same))
  have hcall : ∀ l, Runs Tryz.prog Γ (.call 34 [.yield (h.next + 1), .ptr B 0] ⟨(h.objs.set h.next (.deferred true)).set (h.next + 1) (.loop l), h.next + 2⟩) fun r => Kept (h.next + 2) ⟨(h.objs.set h.next (.deferred true)).set (h.next + 1) (.loop l), h.next + 2⟩ r.hp := fun l => live1N Γ _ tv B _ ho ((get_ne (by omega)).trans ((get_ne (by omega)).trans hB)) (hw.kept (hk0 l))
  refine runs_block ?_
  refine runs_range (f := 34) (args := [.yield (h.next + 1), .ptr B 0]) (by rw [e158]; rfl) ?_
  refine (hcall _).mono ?_
  intro r hk
  have hobj : r.hp.objs.get (h.next + 1) = some (.loop ⟨.ready, none, 0, tm, 207, _, _, _, h.next⟩) := (hk.old (h.next + 1) (Nat.lt_succ_self _)).trans get_same
  refine ⟨_, by unfold loopEnd; rw [hobj], ?_⟩
  exact ⟨_, _, _, rfl, rfl, hlast r _ _ hk⟩

set_option maxHeartbeats 8000000 in
set_option maxRecDepth 20000 in
theorem r25_runs (Γ : Glob) (h : Hp) (tm : T SV) (ms : List Nat) (tv : SV) (S A1 A2 C N : Nat) (z : Value) (hz : ZC z) (hw : Nw Γ tv h) (hS : h.objs.get S = some (.cells (shC A1 A2 C N) 40)) (hSn : S < h.next)
    (hsame : ∀ h', Nw Γ tv h' → Runs Tryz.prog Γ (.call 17 [tv, .ptr S 0] h') fun r => r.v = .lit (.bool false) ∧ r.hp = h')
    (e11 : Fr.ev ⟨tm, 207, ms⟩ (.tmp 11) = .ptr S 0) (e22 : Fr.ev ⟨tm, 207, ms⟩ (.tmp 22) = tv) (e24 : Fr.ev ⟨tm, 207, ms⟩ (.tmp 24) = .lit (.bool false)) (e27 : Fr.ev ⟨tm, 207, ms⟩ (.tmp 27) = .lit (.bool false)) (e28 : Fr.ev ⟨tm, 207, ms⟩ (.tmp 28) = .lit (.int .i64 0)) (e29 : Fr.ev ⟨tm, 207, ms⟩ (.tmp 29) = .lit (.int .i64 1)) :
    Runs Tryz.prog Γ (.code r25 none ⟨tm, 207, ms⟩ h) (Nrm ms fun tm' h' => (∀ (t : Nat) (ms : List Nat), t < 161 → Fr.ev ⟨tm', 207, ms⟩ (.tmp t) = Fr.ev ⟨tm, 207, ms⟩ (.tmp t)) ∧ Fr.ev ⟨tm', 207, ms⟩ (.tmp 198) = .lit (.bool false) ∧ Kept h.next h h') := by
  have htx := textN Γ h tv hw
  have hct := contentN Γ h tv z hz hw
  have hz0 := hz.kind
  refine runs_region ?_
  refine ops_quiet (v := .lit (.bool false)) (fs := []) rfl (by simp only [quiet, e24]) rfl ?_
  refine ops_quiet (v := .lit (.bool false)) (fs := []) rfl rfl rfl ?_
  refine ops_quiet (v := .lit (.bool false)) (fs := []) rfl (by simp only [quiet, ev_set, e27]; rfl) rfl ?_
  refine ops_quiet (v := .lit (.bool false)) (fs := []) rfl rfl rfl ?_
  refine ops_quiet (v := .lit (.bool false)) (fs := []) rfl rfl rfl ?_
  refine ops_quiet (v := .lit (.int .i64 0)) (fs := []) rfl (by simp only [quiet, ev_set, e28]; rfl) rfl ?_
  refine ops_quiet (v := .lit (.bool false)) (fs := []) rfl rfl rfl ?_
  refine ops_quiet (v := .lit (.bool false)) (fs := []) rfl rfl rfl ?_
  refine ops_quiet (v := .lit (.bool false)) (fs := []) rfl rfl rfl ?_
  refine ops_quiet (v := .lit (.int .i64 1)) (fs := []) rfl (by simp only [quiet, ev_set, e29]; rfl) rfl ?_
  refine ops_quiet (v := .lit (.bool false)) (fs := []) rfl rfl rfl ?_
  refine ops_quiet (v := .lit (.bool false)) (fs := []) rfl rfl rfl ?_
  refine ops_quiet (v := .lit (.bool false)) (fs := []) rfl rfl rfl ?_
  refine ops_quiet (v := tv) (fs := []) rfl (by simp only [quiet, ev_set, e22]; rfl) rfl ?_
  refine ops_call (f := 12) (args := [tv, .lit (.int .i64 0), .lit (.int .i64 0)]) rfl rfl (by simp [calleeOf, ev_set]; rfl) (clone_none Tryz.func12 rfl) ?_
  refine htx.mono ?_
  rintro ⟨ex1, fr1, h1, v1⟩ ⟨hv1, hh1⟩
  have hv1 : v1 = noText := hv1
  have hh1' : h = h1 := Eq.symm hh1
  subst hv1 hh1'
  refine ⟨_, rfl, ?_⟩
  refine ops_quiet (v := .lit (.bool false)) (fs := []) rfl (by simp only [quiet, ev_set]; exact congrArg one textNe) rfl ?_
  refine ops_quiet (v := .lit (.bool false)) (fs := []) rfl rfl rfl ?_
  refine ops_quiet (v := .lit (.bool false)) (fs := []) rfl rfl rfl ?_
  refine ops_quiet (v := tv) (fs := []) rfl (by simp only [quiet, ev_set, e22]; rfl) rfl ?_
  refine ops_call (f := 11) (args := [tv, .lit (.int .i64 0), .lit (.int .i64 0)]) rfl rfl (by simp [calleeOf, ev_set]; rfl) (clone_none Tryz.func11 rfl) ?_
  refine hct.mono ?_
  rintro ⟨ex2, fr2, h2, v2⟩ ⟨hv2, hk2⟩
  have hv2 : v2 = .agg (SV.cells (.lit z)) := hv2
  subst hv2
  have hk2 : Kept h.next h h2 := hk2
  have hw2 : Nw Γ tv h2 := hw.kept hk2
  have hS2 : h2.objs.get S = some (.cells (shC A1 A2 C N) 40) := (hk2.old S hSn).trans hS
  have hcl := cloneN Γ h2 tv hw2
  have hs1 := hsame h2 hw2
  have hs2 := same_whole Γ h2 S A1 A2 C N tv hS2 hw2
  refine ⟨_, rfl, ?_⟩
  refine ops_quiet (v := .lit (.int .i64 0)) (fs := []) rfl (by simp only [quiet, ev_set]; exact congrArg one hz0) rfl ?_
  refine ops_quiet (v := .lit (.bool false)) (fs := []) rfl rfl rfl ?_
  refine ops_quiet (v := .lit (.bool false)) (fs := []) rfl rfl rfl ?_
  refine ops_quiet (v := .lit (.bool false)) (fs := []) rfl rfl rfl ?_
  refine ops_quiet (v := tv) (fs := []) rfl (by simp only [quiet, ev_set, e22]; rfl) rfl ?_
  refine ops_call (f := 16) (args := [tv]) rfl rfl (by simp [calleeOf, ev_set]; rfl) (clone_none Tryz.func16 rfl) ?_
  refine hcl.mono ?_
  rintro ⟨ex3, fr3, h3, v3⟩ ⟨hv3, hh3⟩
  have hv3 : v3 = .lit (.pointer none) := hv3
  have hh3' : h2 = h3 := Eq.symm hh3
  subst hv3 hh3'
  refine ⟨_, rfl, ?_⟩
  refine ops_quiet (v := .lit (.bool false)) (fs := []) rfl rfl rfl ?_
  refine ops_quiet (v := .lit (.bool false)) (fs := []) rfl rfl rfl ?_
  refine ops_quiet (v := .lit (.bool false)) (fs := []) rfl rfl rfl ?_
  refine ops_quiet (v := tv) (fs := []) rfl (by simp only [quiet, ev_set, e22]; rfl) rfl ?_
  refine ops_quiet (v := .ptr S 0) (fs := []) rfl (by simp only [quiet, ev_set, e11]; rfl) rfl ?_
  refine ops_call (f := 17) (args := [tv, .ptr S 0]) rfl rfl (by simp [calleeOf, ev_set]; rfl) (clone_none Tryz.func17 rfl) ?_
  refine hs1.mono ?_
  rintro ⟨ex4, fr4, h4, v4⟩ ⟨hv4, hh4⟩
  have hv4 : v4 = .lit (.bool false) := hv4
  have hh4' : h2 = h4 := Eq.symm hh4
  subst hv4 hh4'
  refine ⟨_, rfl, ?_⟩
  refine ops_quiet (v := .lit (.bool false)) (fs := []) rfl rfl rfl ?_
  refine ops_quiet (v := .lit (.bool false)) (fs := []) rfl rfl rfl ?_
  refine ops_quiet (v := .ptr S 0) (fs := []) rfl (by simp only [quiet, ev_set, e11]; rfl) rfl ?_
  refine ops_quiet (v := tv) (fs := []) rfl (by simp only [quiet, ev_set, e22]; rfl) rfl ?_
  refine ops_call (f := 17) (args := [.ptr S 0, tv]) rfl rfl (by simp [calleeOf, ev_set]; rfl) (clone_none Tryz.func17 rfl) ?_
  refine hs2.mono ?_
  rintro ⟨ex5, fr5, h5, v5⟩ ⟨hv5, hh5⟩
  have hv5 : v5 = .lit (.bool false) := hv5
  have hh5' : h2 = h5 := Eq.symm hh5
  subst hv5 hh5'
  refine ⟨_, rfl, ?_⟩
  refine ops_quiet (v := .lit (.bool false)) (fs := []) rfl rfl rfl ?_
  refine ops_nil ?_
  exact ⟨_, _, _, rfl, fun t ms ht => by simp only [ev_set]; repeat (rw [if_neg (by omega)]), by simp only [ev_set]; rfl, hk2⟩

end Go.Proofs.YtpfagdkpolhopaaGreatDoor.sheetNew
namespace Go.Proofs.YtpfagdkpolhopaaGreatDoor.sheetNew
open Go Go.Proofs.YtpfagdkpolhopaaGreatDoor.Ev

set_option maxHeartbeats 8000000 in
set_option maxRecDepth 20000 in
theorem b20_runs (Γ : Glob) (h : Hp) (tm : T SV) (ms : List Nat) (tv tx : SV) (Y S A1 A2 C N : Nat) (cs : List SV) (z : Value) (hz : ZC z) (hw : Nw Γ tv h) (ho : SV.one tv = true) (hY : h.objs.get Y = some (.cells cs 45)) (hYn : Y < h.next) (hl : cs.length = 4) (hS : h.objs.get S = some (.cells (shC A1 A2 C N) 40)) (hSn : S < h.next)
    (hsame : ∀ h', Nw Γ tv h' → Runs Tryz.prog Γ (.call 17 [tv, .ptr S 0] h') fun r => r.v = .lit (.bool false) ∧ r.hp = h')
    (e4 : ∀ ms, Fr.ev ⟨tm, 207, ms⟩ (.tmp 4) = tx) (e11 : ∀ ms, Fr.ev ⟨tm, 207, ms⟩ (.tmp 11) = .ptr S 0) (e17 : ∀ ms, Fr.ev ⟨tm, 207, ms⟩ (.tmp 17) = .ptr Y 0) (e22 : ∀ ms, Fr.ev ⟨tm, 207, ms⟩ (.tmp 22) = tv) :
    Runs Tryz.prog Γ (.code b20 none ⟨tm, 207, ms⟩ h) fun o => ∃ mk tm' h' v, o = ⟨.normal, ⟨tm', 207, mk :: ms⟩, h', v⟩ ∧ (∀ (t : Nat) (ms : List Nat), t ≤ 22 → Fr.ev ⟨tm', 207, ms⟩ (.tmp t) = Fr.ev ⟨tm, 207, ms⟩ (.tmp t)) ∧ Kept h.next h h' ∧ h.next ≤ mk ∧ mk < h'.next ∧ h'.objs.get mk = some (.deferred true) := by
  have out : ∀ (ws : List Nat), (∀ x ∈ ws, 22 < x) → ∀ t, t ≤ 22 → t ∉ ws := fun ws hws t ht hm => absurd (hws t hm) (by omega)
  refine nrm_seq (r20_runs Γ h tm ms tv hw (e22 _)) fun tm1 h1 ⟨q1, f24, k1⟩ => ?_
  have g1 : ∀ (t : Nat) (ms : List Nat), t ≤ 22 → Fr.ev ⟨tm1, 207, ms⟩ (.tmp t) = Fr.ev ⟨tm, 207, ms⟩ (.tmp t) := fun t ms ht => q1 t ms (out _ (by decide) t ht)
  have hY1 := (k1.old Y hYn).trans hY
  refine nrm_seq (r21_runs Γ h1 tm1 ms tv Y cs (hw.kept k1) hY1 hl ((g1 _ _ (by decide)).trans (e22 _)) ((g1 _ _ (by decide)).trans (e17 _))) fun tm2 h2 ⟨q2, f27, k2⟩ => ?_
  have g2 : ∀ (t : Nat) (ms : List Nat), t ≤ 22 → Fr.ev ⟨tm2, 207, ms⟩ (.tmp t) = Fr.ev ⟨tm, 207, ms⟩ (.tmp t) := fun t ms ht => (q2 t ms (out _ (by decide) t ht)).trans (g1 t ms ht)
  have f24' := (q2 24 ms (by decide)).trans f24
  have K2 : Kept h.next h h2 := k1.trans (k2.less k1.next)
  refine nrm_seq (r22_runs Γ h2 tm2 ms tv tx (hw.kept K2) ((g2 _ _ (by decide)).trans (e22 _)) ((g2 _ _ (by decide)).trans (e4 _))) fun tm3 h3 ⟨q3, f28, f29, e3⟩ => ?_
  subst e3
  have g3 : ∀ (t : Nat) (ms : List Nat), t ≤ 22 → Fr.ev ⟨tm3, 207, ms⟩ (.tmp t) = Fr.ev ⟨tm, 207, ms⟩ (.tmp t) := fun t ms ht => (q3 t ms (out _ (by decide) t ht)).trans (g2 t ms ht)
  have f24'' := (q3 24 ms (by decide)).trans f24'
  have f27' := (q3 27 ms (by decide)).trans f27
  have hw3 := hw.kept K2
  refine runs_seq (nrm_seq (r23_runs Γ h3 tm3 ms tv ho ((g3 _ _ (by decide)).trans (e22 _))) fun tm4 h4 ⟨q4, f158, e4'⟩ => ?_)
  have g4 : ∀ (t : Nat) (ms : List Nat), t ≤ 22 → Fr.ev ⟨tm4, 207, ms⟩ (.tmp t) = Fr.ev ⟨tm, 207, ms⟩ (.tmp t) := fun t ms ht => (q4 t ms (out _ (by decide) t ht)).trans (g3 t ms ht)
  have k4 : Kept h3.next h3 h4 := by subst e4'; exact ⟨Nat.le_succ _, fun b hb => get_ne (Nat.ne_of_lt hb)⟩
  have hB4 : h4.objs.get h3.next = some (.cells [tv] 23) := by subst e4'; exact get_same
  have hn4 : h3.next < h4.next := by subst e4'; exact Nat.lt_succ_self _
  have K4 : Kept h.next h h4 := K2.trans (k4.less K2.next)
  refine (rng_runs Γ h4 tm4 ms tv h3.next ho hB4 hn4 (hw3.kept k4) f158).mono ?_
  rintro o ⟨tm5, h5, v5, rfl, rfl, k5, hn5, hd5⟩
  have K5 : Kept h.next h h5 := K4.trans (k5.less K4.next)
  have hS5 := (K5.old S hSn).trans hS
  have hSn5 := Nat.lt_of_lt_of_le hSn K5.next
  have F24 : ∀ ms', Fr.ev ⟨tm5, 207, ms'⟩ (.tmp 24) = .lit (.bool false) := fun _ => (q4 24 ms (by decide)).trans f24''
  have F27 : ∀ ms', Fr.ev ⟨tm5, 207, ms'⟩ (.tmp 27) = .lit (.bool false) := fun _ => (q4 27 ms (by decide)).trans f27'
  have F28 : ∀ ms', Fr.ev ⟨tm5, 207, ms'⟩ (.tmp 28) = .lit (.int .i64 0) := fun _ => (q4 28 ms (by decide)).trans f28
  have F29 : ∀ ms', Fr.ev ⟨tm5, 207, ms'⟩ (.tmp 29) = .lit (.int .i64 1) := fun _ => (q4 29 ms (by decide)).trans f29
  refine nrm_seq (r25_runs Γ h5 tm5 (h4.next :: ms) tv S A1 A2 C N z hz (hw.kept K5) hS5 hSn5 hsame ((g4 _ _ (by decide)).trans (e11 _)) ((g4 _ _ (by decide)).trans (e22 _)) (F24 _) (F27 _) (F28 _) (F29 _)) fun tm6 h6 ⟨q6, f198, k6⟩ => ?_
  refine runs_cond false f198 (runs_skip ?_)
  exact ⟨h4.next, tm6, h6, _, rfl, fun t ms ht => (q6 t ms (by omega)).trans (g4 t ms ht), K5.trans (k6.less K5.next), K4.next, Nat.lt_of_lt_of_le hn5 k6.next, (k6.old _ hn5).trans hd5⟩

/-- What stands behind the law's first part. -/
structure St (tx : SV) (cs : List SV) (D S A1 A2 C N Y Hf : Nat) (tm : T SV) (h : Hp) : Prop where
  e4 : ∀ ms, Fr.ev ⟨tm, 207, ms⟩ (.tmp 4) = tx
  e10 : ∀ ms, Fr.ev ⟨tm, 207, ms⟩ (.tmp 10) = .ptr D 0
  e11 : ∀ ms, Fr.ev ⟨tm, 207, ms⟩ (.tmp 11) = .ptr S 0
  e17 : ∀ ms, Fr.ev ⟨tm, 207, ms⟩ (.tmp 17) = .ptr Y 0
  e19 : ∀ ms, Fr.ev ⟨tm, 207, ms⟩ (.tmp 19) = .lit (.pointer none)
  e20 : ∀ ms, Fr.ev ⟨tm, 207, ms⟩ (.tmp 20) = .ptr Hf 0
  d : h.objs.get D = some (.cells [.lit (.bool false)] 4)
  dn : D < h.next
  s : h.objs.get S = some (.cells (shC A1 A2 C N) 40)
  sn : S < h.next
  y : h.objs.get Y = some (.cells cs 45)
  yn : Y < h.next
  f : h.objs.get Hf = some (.cells (halfC A1 A2) 40)
  fn : Hf < h.next
theorem St.kept {tx : SV} {cs : List SV} {D S A1 A2 C N Y Hf : Nat} {tm tm' : T SV} {h h' : Hp} (hs : St tx cs D S A1 A2 C N Y Hf tm h) (ht : ∀ (t : Nat) (ms : List Nat), t ≤ 20 → Fr.ev ⟨tm', 207, ms⟩ (.tmp t) = Fr.ev ⟨tm, 207, ms⟩ (.tmp t)) (hk : Kept h.next h h') : St tx cs D S A1 A2 C N Y Hf tm' h' :=
  ⟨fun ms => (ht 4 ms (by decide)).trans (hs.e4 ms), fun ms => (ht 10 ms (by decide)).trans (hs.e10 ms), fun ms => (ht 11 ms (by decide)).trans (hs.e11 ms), fun ms => (ht 17 ms (by decide)).trans (hs.e17 ms), fun ms => (ht 19 ms (by decide)).trans (hs.e19 ms), fun ms => (ht 20 ms (by decide)).trans (hs.e20 ms),
   (hk.old D hs.dn).trans hs.d, Nat.lt_of_lt_of_le hs.dn hk.next, (hk.old S hs.sn).trans hs.s, Nat.lt_of_lt_of_le hs.sn hk.next, (hk.old Y hs.yn).trans hs.y, Nat.lt_of_lt_of_le hs.yn hk.next, (hk.old Hf hs.fn).trans hs.f, Nat.lt_of_lt_of_le hs.fn hk.next⟩

/-- What a round leaves. -/
def RoundEnd (tx : SV) (cs : List SV) (D S A1 A2 C N Y Hf : Nat) (k : Int) (ms : List Nat) (h : Hp) (o : Out) : Prop := ∃ mk tm' h' v, o = ⟨.normal, ⟨tm', 207, mk :: ms⟩, h', v⟩ ∧ St tx cs D S A1 A2 C N Y Hf tm' h' ∧ (∀ ms, Fr.ev ⟨tm', 207, ms⟩ (.tmp 21) = .lit (.int .i64 k)) ∧ Kept h.next h h' ∧ h.next ≤ mk ∧ mk < h'.next ∧ h'.objs.get mk = some (.deferred true)

set_option maxHeartbeats 8000000 in
set_option maxRecDepth 20000 in
theorem round0 (Γ : Glob) (h : Hp) (tm : T SV) (ms : List Nat) (tx : SV) (cs : List SV) (D S A1 A2 C N Y Hf : Nat) (z : Value) (hz : ZC z) (hl : cs.length = 4) (hs : St tx cs D S A1 A2 C N Y Hf tm h) (e21 : ∀ ms, Fr.ev ⟨tm, 207, ms⟩ (.tmp 21) = .lit (.int .i64 0)) :
    Runs Tryz.prog Γ (.code loop3 none ⟨tm, 207, ms⟩ h) (RoundEnd tx cs D S A1 A2 C N Y Hf 1 ms h) := by
  have e19 := hs.e19
  have hw := nw_nil Γ h
  have hsame : ∀ h', Nw Γ (.lit (.pointer none)) h' → Runs Tryz.prog Γ (.call 17 [.lit (.pointer none), .ptr S 0] h') fun r => r.v = .lit (.bool false) ∧ r.hp = h' := fun h' _ => same_nil Γ h' S
  refine runs_seq (runs_seq (runs_region ?_))
  refine ops_quiet (v := .lit (.int .i64 0)) (fs := []) rfl (by simp only [quiet, e21]) rfl ?_
  refine ops_quiet (v := .lit (.bool true)) (fs := []) rfl rfl rfl ?_
  refine ops_nil ?_
  refine runs_cond true rfl (runs_skip ?_)
  refine runs_seq (runs_block (runs_seq (runs_region ?_)))
  refine ops_quiet (v := .lit (.pointer none)) (fs := []) rfl (by simp only [quiet, ev_set, e19]; rfl) rfl ?_
  refine ops_quiet (v := .lit (.pointer none)) (fs := []) rfl rfl rfl ?_
  refine ops_nil ?_
  refine runs_seq (runs_seq (runs_region ?_))
  refine ops_quiet (v := .lit (.int .i64 0)) (fs := []) rfl (by simp only [quiet, ev_set, e21]; rfl) rfl ?_
  refine ops_quiet (v := .lit (.bool false)) (fs := []) rfl rfl rfl ?_
  refine ops_nil ?_
  refine runs_cond false rfl (runs_skip ?_)
  refine (b20_runs Γ h _ ms (.lit (.pointer none)) tx Y S A1 A2 C N cs z hz hw rfl hs.y hs.yn hl hs.s hs.sn hsame ?_ ?_ ?_ ?_).mono ?_
  · intro ms; simp only [ev_set]; exact hs.e4 ms
  · intro ms; simp only [ev_set]; exact hs.e11 ms
  · intro ms; simp only [ev_set]; exact hs.e17 ms
  · intro ms; simp only [ev_set]; rfl
  · rintro o ⟨mk, tm', h', v, rfl, g, k, m1, m2, m3⟩
    have g21 : ∀ ms, Fr.ev ⟨tm', 207, ms⟩ (.tmp 21) = .lit (.int .i64 0) := fun ms => (g 21 ms (by decide)).trans (by simp only [ev_set]; exact e21 ms)
    have gg : ∀ (t : Nat) (ms : List Nat), t ≤ 20 → Fr.ev ⟨tm', 207, ms⟩ (.tmp t) = Fr.ev ⟨tm, 207, ms⟩ (.tmp t) := fun t ms ht => (g t ms (by omega)).trans (by simp only [ev_set]; repeat (rw [if_neg (by omega)]))
    rw [show ∀ fr hp v, atEnd 1 ⟨.normal, fr, hp, v⟩ = ⟨.normal, fr, hp, v⟩ from fun _ _ _ => rfl]
    refine runs_region ?_
    refine ops_quiet (v := .lit (.int .i64 0)) (fs := []) rfl (by simp only [quiet, g21]) rfl ?_
    refine ops_quiet (v := .lit (.int .i64 1)) (fs := []) rfl rfl rfl ?_
    refine ops_quiet (v := .lit (.int .i64 1)) (fs := []) rfl rfl rfl ?_
    refine ops_nil ?_
    refine ⟨mk, _, h', _, rfl, hs.kept (fun t ms ht => ?_) k, fun ms => ?_, k, m1, m2, m3⟩
    · rw [← gg t ms ht]; simp only [ev_set]; repeat (rw [if_neg (by omega)])
    · simp only [ev_set]; rfl

set_option maxHeartbeats 8000000 in
set_option maxRecDepth 20000 in
theorem round1 (Γ : Glob) (h : Hp) (tm : T SV) (ms : List Nat) (tx : SV) (cs : List SV) (D S A1 A2 C N Y Hf : Nat) (z : Value) (hz : ZC z) (hl : cs.length = 4) (hs : St tx cs D S A1 A2 C N Y Hf tm h) (e21 : ∀ ms, Fr.ev ⟨tm, 207, ms⟩ (.tmp 21) = .lit (.int .i64 1)) :
    Runs Tryz.prog Γ (.code loop3 none ⟨tm, 207, ms⟩ h) (RoundEnd tx cs D S A1 A2 C N Y Hf 2 ms h) := by
  have e19 := hs.e19
  have e20 := hs.e20
  have hw := nw_half Γ h Hf A1 A2 hs.f hs.fn
  have hsame : ∀ h', Nw Γ (.ptr Hf 0) h' → Runs Tryz.prog Γ (.call 17 [.ptr Hf 0, .ptr S 0] h') fun r => r.v = .lit (.bool false) ∧ r.hp = h' := fun h' hw' => same_half Γ h' Hf (.ptr S 0) hw'
  refine runs_seq (runs_seq (runs_region ?_))
  refine ops_quiet (v := .lit (.int .i64 1)) (fs := []) rfl (by simp only [quiet, e21]) rfl ?_
  refine ops_quiet (v := .lit (.bool true)) (fs := []) rfl rfl rfl ?_
  refine ops_nil ?_
  refine runs_cond true rfl (runs_skip ?_)
  refine runs_seq (runs_block (runs_seq (runs_region ?_)))
  refine ops_quiet (v := .lit (.pointer none)) (fs := []) rfl (by simp only [quiet, ev_set, e19]; rfl) rfl ?_
  refine ops_quiet (v := .lit (.pointer none)) (fs := []) rfl rfl rfl ?_
  refine ops_nil ?_
  refine runs_seq (runs_seq (runs_region ?_))
  refine ops_quiet (v := .lit (.int .i64 1)) (fs := []) rfl (by simp only [quiet, ev_set, e21]; rfl) rfl ?_
  refine ops_quiet (v := .lit (.bool true)) (fs := []) rfl rfl rfl ?_
  refine ops_nil ?_
  refine runs_cond true rfl (runs_region ?_)
  refine ops_quiet (v := .ptr Hf 0) (fs := []) rfl (by simp only [quiet, ev_set, e20]; rfl) rfl ?_
  refine ops_quiet (v := .ptr Hf 0) (fs := []) rfl rfl rfl ?_
  refine ops_nil ?_
  refine (b20_runs Γ h _ ms (.ptr Hf 0) tx Y S A1 A2 C N cs z hz hw rfl hs.y hs.yn hl hs.s hs.sn hsame ?_ ?_ ?_ ?_).mono ?_
  · intro ms; simp only [ev_set]; exact hs.e4 ms
  · intro ms; simp only [ev_set]; exact hs.e11 ms
  · intro ms; simp only [ev_set]; exact hs.e17 ms
  · intro ms; simp only [ev_set]; rfl
  · rintro o ⟨mk, tm', h', v, rfl, g, k, m1, m2, m3⟩
    have g21 : ∀ ms, Fr.ev ⟨tm', 207, ms⟩ (.tmp 21) = .lit (.int .i64 1) := fun ms => (g 21 ms (by decide)).trans (by simp only [ev_set]; exact e21 ms)
    have gg : ∀ (t : Nat) (ms : List Nat), t ≤ 20 → Fr.ev ⟨tm', 207, ms⟩ (.tmp t) = Fr.ev ⟨tm, 207, ms⟩ (.tmp t) := fun t ms ht => (g t ms (by omega)).trans (by simp only [ev_set]; repeat (rw [if_neg (by omega)]))
    rw [show ∀ fr hp v, atEnd 1 ⟨.normal, fr, hp, v⟩ = ⟨.normal, fr, hp, v⟩ from fun _ _ _ => rfl]
    refine runs_region ?_
    refine ops_quiet (v := .lit (.int .i64 1)) (fs := []) rfl (by simp only [quiet, g21]) rfl ?_
    refine ops_quiet (v := .lit (.int .i64 2)) (fs := []) rfl rfl rfl ?_
    refine ops_quiet (v := .lit (.int .i64 2)) (fs := []) rfl rfl rfl ?_
    refine ops_nil ?_
    refine ⟨mk, _, h', _, rfl, hs.kept (fun t ms ht => ?_) k, fun ms => ?_, k, m1, m2, m3⟩
    · rw [← gg t ms ht]; simp only [ev_set]; repeat (rw [if_neg (by omega)])
    · simp only [ev_set]; rfl
end Go.Proofs.YtpfagdkpolhopaaGreatDoor.sheetNew
namespace Go.Proofs.YtpfagdkpolhopaaGreatDoor.sheetNew
open Go Go.Proofs.YtpfagdkpolhopaaGreatDoor.Ev

theorem pureRun_bind {α β : Type} (P : Program) (s : Sem α) (f : α → Sem β) : pureRun P (s >>= f) = (pureRun P s).bind fun a => pureRun P (f a) := by
  show pureRun P (s.bind f) = _
  induction s with
  | pure a => rfl
  | program k ih => exact ih P
  | mark m k ih => exact ih
  | _ => rfl
theorem pureRun_pure {α : Type} (P : Program) (a : α) : pureRun P (pure a) = some a := rfl
def idP (b : Int) : Value := .agg #[.int .i64 0, .int .i64 b]
theorem idEqIn0 (b d : Int) : pureRun Tryz.prog (Op.equalIn 9999 43 (idP b) (idP d)) = eqTail Tryz.prog (b == d) := by kernel_rfl
theorem idEqIn (b : Int) : pureRun Tryz.prog (Op.equalIn 9999 43 (idP b) (idP b)) = some true := by rw [idEqIn0, eqTail_eq, beq_self_eq_true]
noncomputable def cellFs : Array Field := match Tryz.prog.underlying 45 with
  | some (.struct fs) => fs
  | _ => #[]
noncomputable def cellF (i : Nat) : Field := match cellFs[i]? with
  | some f => f
  | none => default
theorem cellFs_eq : cellFs = #[cellF 0, cellF 1] := by kernel_rfl
theorem cellU : pureRun Tryz.prog (underlying 45) = some (.struct cellFs) := by kernel_rfl
theorem cellHeld : Tryz.prog.stoodInHeld 45 = false := by kernel_rfl
theorem cellN0 : (decide ((cellF 0).name ≠ "_")) = true := by kernel_rfl
theorem cellN1 : (decide ((cellF 1).name ≠ "_")) = true := by kernel_rfl
theorem cellT0 : (cellF 0).type = 43 := by kernel_rfl
theorem cellT1 : (cellF 1).type = 43 := by kernel_rfl
theorem cellP0 (a b c d : Int) : pureRun Tryz.prog (part 43 #[.int .i64 a, .int .i64 b, .int .i64 c, .int .i64 d] (cellF 0).offset) = some (.agg #[.int .i64 a, .int .i64 b]) := by kernel_rfl
theorem cellP1 (a b c d : Int) : pureRun Tryz.prog (part 43 #[.int .i64 a, .int .i64 b, .int .i64 c, .int .i64 d] (cellF 1).offset) = some (.agg #[.int .i64 c, .int .i64 d]) := by kernel_rfl
set_option maxRecDepth 100000 in
theorem cellEq (b d : Int) : pureRun Tryz.prog (Op.equal 45 (cellV 0 b 0 d) (cellV 0 b 0 d)) = some true := by
  have h1 := idEqIn b
  have h2 := idEqIn d
  unfold idP at h1 h2
  have n0 : (cellF 0).name ≠ "_" := of_decide_eq_true cellN0
  have n1 : (cellF 1).name ≠ "_" := of_decide_eq_true cellN1
  have hp : pureRun Tryz.prog program = some Tryz.prog := rfl
  show pureRun Tryz.prog (Op.equalIn (9999 + 1) 45 (cellV 0 b 0 d) (cellV 0 b 0 d)) = some true
  rw [Op.equalIn, pureRun_bind, cellU]
  simp only [Option.bind_some, cellV]
  rw [pureRun_bind, hp]
  simp only [Option.bind_some, cellHeld, Bool.false_eq_true, if_false]
  rw [pureRun_bind, cellFs_eq, List.forIn_toArray]
  simp only [List.forIn_cons, List.forIn_nil]
  simp only [if_pos n0, if_pos n1, pureRun_bind, pureRun_pure, cellP0, cellP1, Option.bind_some, cellT0, cellT1, h1, h2, Bool.not_true, Bool.false_eq_true, if_false]
theorem neq_agg (t : TypeId) (x y : Array Value) : binOp .neq t (.agg x) (.agg y) = (Op.equal t (.agg x) (.agg y) >>= fun r => pure (.bool (!r))) := rfl
theorem cellNe (b d : Int) : binQ Tryz.prog .neq 45 (.tmp 98) (.tmp 99) (.agg (cellL 0 b 0 d)) (.agg (cellL 0 b 0 d)) = some (.lit (.bool false)) := by
  have ht : SV.toLit (.agg (cellL 0 b 0 d)) = some (cellV 0 b 0 d) := rfl
  have hg : pureRun Tryz.prog (eqGuard .neq 45 (.tmp 98) (.tmp 99) (cellV 0 b 0 d) (cellV 0 b 0 d)) = some () := by kernel_rfl
  simp only [binQ, ht, pureRun_bind, hg, Option.bind_some]
  have hb : pureRun Tryz.prog (binOp .neq 45 (cellV 0 b 0 d) (cellV 0 b 0 d)) = some (.bool false) := by
    have h := cellEq b d
    unfold cellV at h ⊢
    rw [neq_agg, pureRun_bind, h, Option.bind_some, pureRun_pure]
    rfl
  rw [hb]
  rfl
theorem cellC_zero (n m : Nat) (p q : Int) : ∃ b d, cellC n m p q = cellL 0 b 0 d := by
  unfold cellC
  split
  · rename_i h
    unfold cellOk at h
    simp only [Bool.and_eq_true] at h
    unfold atC
    rw [if_pos h.1, if_pos h.2]
    exact ⟨_, _, rfl⟩
  · exact ⟨0, 0, rfl⟩
end Go.Proofs.YtpfagdkpolhopaaGreatDoor.sheetNew
