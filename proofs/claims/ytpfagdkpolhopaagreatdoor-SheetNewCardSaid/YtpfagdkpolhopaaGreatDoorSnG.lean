/-
  THE LAW BEHIND ITS QUESTIONS ON A WHOLE SHEET: the half sheet, the loop, the end; by the author of this claim, in the calculus of runs. | THE LAW's QUESTIONS ON A WHOLE SHEET: its cells; by the author of this claim, in the calculus of runs. | THE LAW, whole; by the author of this claim, in the calculus of runs.
-/
import Derived.Test.YtpfagdkpolhopaaGreatDoorSnF
import Derived.Test.YtpfagdkpolhopaaGreatDoorSnE
namespace Go.Proofs.YtpfagdkpolhopaaGreatDoor.sheetNew
open Go Go.Proofs.YtpfagdkpolhopaaGreatDoor.Ev

/-- The law tells true. -/
def Fin (Γ : Glob) (o : Out) : Prop := ∃ r, leave Tryz.prog Γ Tryz.f3 o = some [r] ∧ r.v = .lit (.bool true)
set_option maxRecDepth 20000 in
theorem leave_law (Γ : Glob) {tm : T SV} {m1 m0 D : Nat} {h : Hp} {v : SV} (h1 : h.objs.get m1 = some (.deferred true)) (h0 : h.objs.get m0 = some (.deferred true)) (hne : m0 ≠ m1) (hD : h.objs.get D = some (.cells [.lit (.bool true)] 4)) (d1 : D ≠ m1) (d0 : D ≠ m0) (e10 : Fr.ev ⟨tm, 207, [m1, m0]⟩ (.tmp 10) = .ptr D 0) :
    Fin Γ ⟨.ret, ⟨tm, 207, [m1, m0]⟩, h, v⟩ := by
  have g0 : (h.upd m1 (.deferred false)).objs.get m0 = some (.deferred true) := (get_ne hne).trans h0
  have gD : ((h.upd m1 (.deferred false)).upd m0 (.deferred false)).objs.get D = some (.cells [.lit (.bool true)] 4) := (get_ne d0).trans ((get_ne d1).trans hD)
  have hl : loadQ Tryz.prog Γ ((h.upd m1 (.deferred false)).upd m0 (.deferred false)) 4 (.ptr D 0) = some (.lit (.bool true), [.cells D 0 [.lit (.bool true)]]) := load_cell rfl gD rfl
  refine ⟨⟨.ret, ⟨tm, 207, [m1, m0]⟩, (h.upd m1 (.deferred false)).upd m0 (.deferred false), .lit (.bool true)⟩, ?_, rfl⟩
  simp only [leave, shutMarks, h1, g0]
  rw [show Tryz.f3.results.toList = [.cell 10 4] from rfl]
  simp only [resultsQ, e10, hl]

noncomputable def a12 : Code := seqR a11
set_option maxHeartbeats 8000000 in
set_option maxRecDepth 20000 in
theorem end_runs (Γ : Glob) (h : Hp) (tm : T SV) (m1 m0 : Nat) (tx : SV) (cs : List SV) (D S A1 A2 C N Y Hf : Nat) (hs : St tx cs D S A1 A2 C N Y Hf tm h) (h1 : h.objs.get m1 = some (.deferred true)) (h0 : h.objs.get m0 = some (.deferred true)) (hne : m0 ≠ m1) (d1 : D ≠ m1) (d0 : D ≠ m0) :
    Runs Tryz.prog Γ (.code a12 none ⟨tm, 207, [m1, m0]⟩ h) (Fin Γ) := by
  have hw := nw_half Γ h Hf A1 A2 hs.f hs.fn
  have hn := same_nils Γ h
  have hh := same_half Γ h Hf (.ptr Hf 0) hw
  have e19 := hs.e19 [m1, m0]
  have e20 := hs.e20 [m1, m0]
  have e10 := hs.e10 [m1, m0]
  refine runs_seq (runs_region ?_)
  refine ops_quiet (v := .lit (.pointer none)) (fs := []) rfl (by simp only [quiet, e19]) rfl ?_
  refine ops_call (f := 17) (args := [.lit (.pointer none), .lit (.pointer none)]) rfl rfl (by simp [calleeOf, ev_set]; rfl) rfl ?_
  refine hn.mono ?_
  rintro ⟨ex1, fr1, h2, v1⟩ ⟨hv1, hh1⟩
  have hv1 : v1 = .lit (.bool true) := hv1
  have hh1' : h = h2 := Eq.symm hh1
  subst hv1 hh1'
  refine ⟨_, rfl, ?_⟩
  refine ops_quiet (v := .lit (.bool true)) (fs := []) rfl rfl rfl ?_
  refine ops_quiet (v := .ptr Hf 0) (fs := []) rfl (by simp only [quiet, ev_set, e20]; rfl) rfl ?_
  refine ops_quiet (v := .ptr Hf 0) (fs := []) rfl (by simp only [quiet, ev_set, e20]; rfl) rfl ?_
  refine ops_call (f := 17) (args := [.ptr Hf 0, .ptr Hf 0]) rfl rfl (by simp [calleeOf, ev_set]; rfl) rfl ?_
  refine hh.mono ?_
  rintro ⟨ex2, fr2, h3, v2⟩ ⟨hv2, hh2⟩
  have hv2 : v2 = .lit (.bool false) := hv2
  have hh2' : h = h3 := Eq.symm hh2
  subst hv2 hh2'
  refine ⟨_, rfl, ?_⟩
  refine ops_quiet (v := .lit (.bool true)) (fs := []) rfl rfl rfl ?_
  refine ops_quiet (v := .lit (.bool true)) (fs := []) rfl rfl rfl ?_
  refine ops_effect (v := .lit undef) (hp' := ⟨h.objs.set D (.cells [.lit (.bool true)] 4), h.next⟩) rfl rfl rfl (store_eff (n := 1) (v := .lit (.bool true)) (l := [.lit (.bool false)]) rfl (by simp only [ev_set]; exact e10) (by simp only [ev_set]; rfl) rfl hs.d rfl) (Nat.le_refl _) rfl ?_
  refine ops_nil ?_
  refine runs_ret ?_
  refine leave_law Γ ((get_ne d1.symm).trans h1) ((get_ne d0.symm).trans h0) hne get_same d1 d0 ?_
  simp only [ev_set]
  exact e10

set_option maxHeartbeats 8000000 in
set_option maxRecDepth 20000 in
theorem a11_runs (Γ : Glob) (h : Hp) (tm : T SV) (tx : SV) (cs : List SV) (D S A1 A2 C N Y Hf : Nat) (z : Value) (hz : ZC z) (hl : cs.length = 4) (hs : St tx cs D S A1 A2 C N Y Hf tm h) :
    Runs Tryz.prog Γ (.code a11 none ⟨tm, 207, []⟩ h) (Fin Γ) := by
  refine runs_seq (runs_seq (runs_region ?_))
  refine ops_quiet (v := .lit (.int .i64 0)) (fs := []) rfl rfl rfl ?_
  refine ops_nil ?_
  refine runs_block ?_
  refine runs_loop ?_
  refine (round0 Γ h _ [] tx cs D S A1 A2 C N Y Hf z hz hl (hs.kept (fun t ms ht => ?_) (Kept.refl _ _)) fun ms => ?_).mono ?_
  · simp only [ev_set]; rw [if_neg (by omega)]
  · simp only [ev_set]; rfl
  rintro o ⟨m0, tm1, h1, v1, rfl, hs1, e21, k1, a1, a2, a3⟩
  refine runs_loop ?_
  refine (round1 Γ h1 tm1 [m0] tx cs D S A1 A2 C N Y Hf z hz hl hs1 e21).mono ?_
  rintro o ⟨m1, tm2, h2, v2, rfl, hs2, e21', k2, b1, b2, b3⟩
  have g0 : h2.objs.get m0 = some (.deferred true) := (k2.old m0 a2).trans a3
  have n1 : m0 ≠ m1 := Nat.ne_of_lt (Nat.lt_of_lt_of_le a2 b1)
  have n2 : D ≠ m1 := Nat.ne_of_lt (Nat.lt_of_lt_of_le hs1.dn b1)
  have n3 : D ≠ m0 := Nat.ne_of_lt (Nat.lt_of_lt_of_le hs.dn a1)
  have e21'' := e21' [m1, m0]
  refine runs_loop ?_
  refine runs_seq (runs_seq (runs_region ?_))
  refine ops_quiet (v := .lit (.int .i64 2)) (fs := []) rfl (by simp only [quiet, e21'']) rfl ?_
  refine ops_quiet (v := .lit (.bool false)) (fs := []) rfl rfl rfl ?_
  refine ops_nil ?_
  refine runs_cond false rfl (runs_exit ?_)
  refine end_runs Γ h2 _ m1 m0 tx cs D S A1 A2 C N Y Hf (hs2.kept (fun t ms ht => ?_) (Kept.refl _ _)) b3 g0 n1 n2 n3
  simp only [ev_set]; repeat (rw [if_neg (by omega)])

noncomputable def r13Ops : Array Oper := opsOf (seqL (seqR a9))
set_option maxHeartbeats 8000000 in
set_option maxRecDepth 20000 in
theorem a9_runs (Γ : Glob) (h : Hp) (tm : T SV) (tx : SV) (cs : List SV) (D S A1 A2 C N Y : Nat) (z : Value) (hz : ZC z) (hl : cs.length = 4)
    (e4 : Fr.ev ⟨tm, 207, []⟩ (.tmp 4) = tx) (e10 : Fr.ev ⟨tm, 207, []⟩ (.tmp 10) = .ptr D 0) (e11 : Fr.ev ⟨tm, 207, []⟩ (.tmp 11) = .ptr S 0) (e17 : Fr.ev ⟨tm, 207, []⟩ (.tmp 17) = .ptr Y 0)
    (d : h.objs.get D = some (.cells [.lit (.bool false)] 4)) (dn : D < h.next) (s : h.objs.get S = some (.cells (shC A1 A2 C N) 40)) (sn : S < h.next) (y : h.objs.get Y = some (.cells cs 45)) (yn : Y < h.next) :
    Runs Tryz.prog Γ (.code a9 none ⟨tm, 207, []⟩ h) (Fin Γ) := by
  have d3 : Nat.testBit (descOf 3 r13Ops.toList 0 0) 9 = true := rfl
  have d7 : Nat.testBit (descOf 7 r13Ops.toList 0 0) 9 = true := rfl
  refine runs_seq (runs_region ?_)
  refine ops_quiet (v := .lit (.pointer none)) (fs := []) rfl rfl rfl ?_
  refine ops_nil ?_
  refine runs_seq (runs_drawn (ops := r13Ops) rfl ?_)
  refine drawn_end (m' := 2047) (held' := [⟨descOf 9 r13Ops.toList 0 0, [], some (h.next, .cells (halfC A1 A2) 40)⟩, ⟨descOf 7 r13Ops.toList 0 0, [.cells S 1 [.ptr A2 0]], none⟩, ⟨descOf 3 r13Ops.toList 0 0, [.cells S 0 [.ptr A1 0]], none⟩]) (hp' := ⟨h.objs.set h.next (.cells (halfC A1 A2) 40), h.next + 1⟩) (by
    refine take_quiet (v := .ptr S 0) rfl rfl rfl (by simp only [quiet, ev_set, e11]; rfl) rfl ?_
    refine take_quiet (v := .ptr S 0) rfl rfl rfl (by simp only [quiet, ev_set]; rfl) rfl ?_
    refine take_quiet (v := .ptr S 0) rfl rfl rfl (by simp only [quiet, ev_set]; rfl) rfl ?_
    refine take_lean (v := .ptr A1 0) (fs := .cells S 0 [.ptr A1 0]) rfl rfl rfl (by simp only [quiet, ev_set]; exact load_cell rfl s rfl) rfl ?_
    refine take_quiet (v := .ptr S 0) rfl rfl rfl (by simp only [quiet, ev_set, e11]; rfl) rfl ?_
    refine take_quiet (v := .ptr S 0) rfl rfl rfl (by simp only [quiet, ev_set]; rfl) rfl ?_
    refine take_quiet (v := .ptr S 1) rfl rfl rfl (by simp only [quiet, ev_set]; rfl) rfl ?_
    refine take_lean (v := .ptr A2 0) (fs := .cells S 1 [.ptr A2 0]) rfl rfl rfl (by simp only [quiet, ev_set]; exact load_cell rfl s rfl) rfl ?_
    refine take_quiet (v := .agg (halfC A1 A2)) rfl rfl rfl (by simp only [quiet, ev_set]; rfl) rfl ?_
    refine take_local (v := .ptr h.next 0) (b := h.next) (nx := h.next + 1) (ob := .cells (halfC A1 A2) 40) rfl rfl rfl rfl rfl (by simp only [noneLeans, d3, d7, cond_true, Bool.and_true]) rfl ?_
    refine take_quiet (v := .ptr h.next 0) rfl rfl rfl (by simp only [quiet, ev_set]; rfl) rfl ?_
    rfl) rfl rfl ?_
  refine a11_runs Γ _ _ tx cs D S A1 A2 C N Y h.next z hz hl ⟨?_, ?_, ?_, ?_, ?_, ?_, ?_, ?_, ?_, ?_, ?_, ?_, ?_, ?_⟩
  · intro ms; simp only [ev_set]; exact e4
  · intro ms; simp only [ev_set]; exact e10
  · intro ms; simp only [ev_set]; exact e11
  · intro ms; simp only [ev_set]; exact e17
  · intro ms; simp only [ev_set]; rfl
  · intro ms; simp only [ev_set]; rfl
  · exact (get_ne (Nat.ne_of_lt dn)).trans d
  · exact Nat.lt_succ_of_lt dn
  · exact (get_ne (Nat.ne_of_lt sn)).trans s
  · exact Nat.lt_succ_of_lt sn
  · exact (get_ne (Nat.ne_of_lt yn)).trans y
  · exact Nat.lt_succ_of_lt yn
  · exact get_same
  · exact Nat.lt_succ_self _
end Go.Proofs.YtpfagdkpolhopaaGreatDoor.sheetNew
namespace Go.Proofs.YtpfagdkpolhopaaGreatDoor.sheetNew
open Go Go.Proofs.YtpfagdkpolhopaaGreatDoor.Ev

theorem ShAt.apart {h : Hp} {S A1 A2 C N n m b : Nat} {cs : List SV} {e : TypeId} (hs : ShAt h S A1 A2 C N n m) (hb : h.objs.get b = some (.cells cs e)) (he : e ≠ 87) : b ≠ A1 ∧ b ≠ A2 := by
  constructor
  · intro x
    subst x
    rcases hs.a1 with ⟨_, _, _, _, _, _, g, _⟩ | ⟨_, _, _, _, _, _, _, _, g, _⟩ <;> (rw [hb] at g; injection g with g; injection g with _ g; exact he g)
  · intro x
    subst x
    rcases hs.a2 with ⟨_, _, _, _, _, _, g, _⟩ | ⟨_, _, _, _, _, _, _, _, g, _⟩ <;> (rw [hb] at g; injection g with g; injection g with _ g; exact he g)
theorem Left2.at {h h' : Hp} {A1 A2 b : Nat} {o : AObj} (hl : Left2 h h' A1 A2) (hb : h.objs.get b = some o) (hn : b < h.next) (hne : b ≠ A1 ∧ b ≠ A2) : h'.objs.get b = some o ∧ b < h'.next := ⟨(hl.1 b hn hne.1 hne.2).trans hb, Nat.lt_of_lt_of_le hn hl.2⟩
theorem cellC_len (n m : Nat) (p q : Int) : (cellC n m p q).length = 4 ∧ (cellC n m p q).all SV.one = true := by
  obtain ⟨b, d, e⟩ := cellC_zero n m p q
  rw [e]
  exact ⟨rfl, rfl⟩

noncomputable def r10 : Code := seqL (seqL (seqR (seqR (seqR a5))))
noncomputable def a8 : Code := seqR (seqR (seqR a5))
theorem textNe118 : binQ Tryz.prog .neq 9 (.tmp 118) (.const (.string ⟨#[]⟩)) noText (.lit (.string ⟨#[]⟩)) = some (.lit (.bool false)) := by kernel_rfl
set_option maxHeartbeats 8000000 in
set_option maxRecDepth 20000 in
theorem a8_runs (Γ : Glob) (h : Hp) (tm : T SV) (tx : SV) (D S A1 A2 C N n m V Y : Nat) (p q : Int) (z : Value) (hz : ZC z) (hn : n ≤ 1000) (hm : m ≤ 1000) (o : Bool)
    (e2 : Fr.ev ⟨tm, 207, []⟩ (.tmp 2) = .lit (.int .i64 p)) (e3 : Fr.ev ⟨tm, 207, []⟩ (.tmp 3) = .lit (.int .i64 q)) (e4 : Fr.ev ⟨tm, 207, []⟩ (.tmp 4) = tx) (e10 : Fr.ev ⟨tm, 207, []⟩ (.tmp 10) = .ptr D 0) (e11 : Fr.ev ⟨tm, 207, []⟩ (.tmp 11) = .ptr S 0) (e15 : Fr.ev ⟨tm, 207, []⟩ (.tmp 15) = .ptr V 0) (e16 : Fr.ev ⟨tm, 207, []⟩ (.tmp 16) = .lit (.bool o)) (e17 : Fr.ev ⟨tm, 207, []⟩ (.tmp 17) = .ptr Y 0) (e18 : Fr.ev ⟨tm, 207, []⟩ (.tmp 18) = .lit (.bool o))
    (hs : ShAt h S A1 A2 C N n m) (d : h.objs.get D = some (.cells [.lit (.bool false)] 4)) (dn : D < h.next) (v : h.objs.get V = some (.cells (cellC n m p q) 45)) (y : h.objs.get Y = some (.cells (cellC n m p q) 45)) (yn : Y < h.next) :
    Runs Tryz.prog Γ (.code a8 none ⟨tm, 207, []⟩ h) (Fin Γ) := by
  obtain ⟨b, c, ec⟩ := cellC_zero n m p q
  have hl4 := (cellC_len n m p q).1
  have l1 := load_all (P := Tryz.prog) (Γ := Γ) (h := h) tyAggCell tySizeCell v hl4
  have l2 := load_all (P := Tryz.prog) (Γ := Γ) (h := h) tyAggCell tySizeCell y hl4
  have hne : binQ Tryz.prog .neq 45 (.tmp 98) (.tmp 99) (.agg (cellC n m p q)) (.agg (cellC n m p q)) = some (.lit (.bool false)) := by rw [ec]; exact cellNe b c
  have hob : ∀ x y : Operand, binQ Tryz.prog .neq 4 x y (.lit (.bool o)) (.lit (.bool o)) = some (.lit (.bool false)) := fun x y => by cases o <;> rfl
  have hcont := content_runs Γ h S A1 A2 C N n m p q z hz hn hm hs
  have hkind := hz.kind
  have apD := hs.apart d (by decide)
  have apY := hs.apart y (by decide)
  refine runs_seq (runs_seq (runs_region ?_))
  refine ops_quiet (v := .agg (cellC n m p q)) (fs := [.cells V 0 (cellC n m p q)]) rfl (by simp only [quiet, e15]; exact l1) rfl ?_
  refine ops_quiet (v := .agg (cellC n m p q)) (fs := [.cells Y 0 (cellC n m p q)]) rfl (by simp only [quiet, ev_set, e17]; exact l2) rfl ?_
  refine ops_quiet (v := .lit (.bool false)) (fs := []) rfl (by simp only [quiet, ev_set]; exact congrArg one hne) rfl ?_
  refine ops_quiet (v := .lit (.bool false)) (fs := []) rfl rfl rfl ?_
  refine ops_quiet (v := .lit (.bool o)) (fs := []) rfl (by simp only [quiet, ev_set, e16]; rfl) rfl ?_
  refine ops_quiet (v := .lit (.bool o)) (fs := []) rfl (by simp only [quiet, ev_set, e18]; rfl) rfl ?_
  refine ops_quiet (v := .lit (.bool false)) (fs := []) rfl (by simp only [quiet, ev_set]; exact congrArg one (hob _ _)) rfl ?_
  refine ops_quiet (v := .lit (.bool false)) (fs := []) rfl rfl rfl ?_
  refine ops_quiet (v := .lit (.bool false)) (fs := []) rfl rfl rfl ?_
  refine ops_quiet (v := .ptr S 0) (fs := []) rfl (by simp only [quiet, ev_set, e11]; rfl) rfl ?_
  refine ops_quiet (v := .lit (.int .i64 p)) (fs := []) rfl (by simp only [quiet, ev_set, e2]; rfl) rfl ?_
  refine ops_quiet (v := .lit (.int .i64 q)) (fs := []) rfl (by simp only [quiet, ev_set, e3]; rfl) rfl ?_
  refine ops_call (f := 11) (args := [.ptr S 0, .lit (.int .i64 p), .lit (.int .i64 q)]) rfl rfl (by simp [calleeOf, ev_set]; rfl) rfl ?_
  refine hcont.mono ?_
  rintro ⟨ex1, fr1, h1, v1⟩ ⟨hv1, hs1, hk1⟩
  have hv1 : v1 = .agg (SV.cells (.lit z)) := hv1
  subst hv1
  have hs1 : ShAt h1 S A1 A2 C N n m := hs1
  have hk1 : Left2 h h1 A1 A2 := hk1
  have htx := text_runs Γ h1 S A1 A2 C N n m p q z hz hn hm hs1
  refine ⟨_, rfl, ?_⟩
  refine ops_quiet (v := .lit (.int .i64 0)) (fs := []) rfl (by simp only [quiet, ev_set]; exact congrArg one hkind) rfl ?_
  refine ops_quiet (v := .lit (.bool false)) (fs := []) rfl rfl rfl ?_
  refine ops_quiet (v := .lit (.bool false)) (fs := []) rfl rfl rfl ?_
  refine ops_quiet (v := .lit (.bool false)) (fs := []) rfl rfl rfl ?_
  refine ops_quiet (v := .ptr S 0) (fs := []) rfl (by simp only [quiet, ev_set, e11]; rfl) rfl ?_
  refine ops_quiet (v := .lit (.int .i64 p)) (fs := []) rfl (by simp only [quiet, ev_set, e2]; rfl) rfl ?_
  refine ops_quiet (v := .lit (.int .i64 q)) (fs := []) rfl (by simp only [quiet, ev_set, e3]; rfl) rfl ?_
  refine ops_call (f := 12) (args := [.ptr S 0, .lit (.int .i64 p), .lit (.int .i64 q)]) rfl rfl (by simp [calleeOf, ev_set]; rfl) rfl ?_
  refine htx.mono ?_
  rintro ⟨ex2, fr2, h2, v2⟩ ⟨hv2, hs2, hk2⟩
  have hv2 : v2 = noText := hv2
  subst hv2
  have hs2 : ShAt h2 S A1 A2 C N n m := hs2
  have hk2 : Left2 h h2 A1 A2 := hk1.trans hk2
  have dd := hk2.at d dn apD
  have yy := hk2.at y yn apY
  refine ⟨_, rfl, ?_⟩
  refine ops_quiet (v := .lit (.bool false)) (fs := []) rfl (by simp only [quiet, ev_set]; exact congrArg one textNe118) rfl ?_
  refine ops_quiet (v := .lit (.bool false)) (fs := []) rfl rfl rfl ?_
  refine ops_nil ?_
  refine runs_cond false rfl (runs_skip ?_)
  refine a9_runs Γ h2 _ tx (cellC n m p q) D S A1 A2 C N Y z hz hl4 ?_ ?_ ?_ ?_ dd.1 dd.2 hs2.s hs2.sn yy.1 yy.2
  · simp only [ev_set]; exact e4
  · simp only [ev_set]; exact e10
  · simp only [ev_set]; exact e11
  · simp only [ev_set]; exact e17

noncomputable def a6 : Code := seqR a5
set_option maxHeartbeats 8000000 in
set_option maxRecDepth 20000 in
theorem a6_runs (Γ : Glob) (h : Hp) (tm : T SV) (tx : SV) (D S A1 A2 C N n m X B1 B2 : Nat) (p q : Int) (z : Value) (hz : ZC z) (hn : n ≤ 1000) (hm : m ≤ 1000)
    (e2 : Fr.ev ⟨tm, 207, []⟩ (.tmp 2) = .lit (.int .i64 p)) (e3 : Fr.ev ⟨tm, 207, []⟩ (.tmp 3) = .lit (.int .i64 q)) (e4 : Fr.ev ⟨tm, 207, []⟩ (.tmp 4) = tx) (e10 : Fr.ev ⟨tm, 207, []⟩ (.tmp 10) = .ptr D 0) (e11 : Fr.ev ⟨tm, 207, []⟩ (.tmp 11) = .ptr S 0) (e12 : Fr.ev ⟨tm, 207, []⟩ (.tmp 12) = .ptr X 0)
    (hs : ShAt h S A1 A2 C N n m) (hr : RSh h X B1 B2 n m) (ha : A1 < B1 ∧ A2 < B1) (d : h.objs.get D = some (.cells [.lit (.bool false)] 4)) (dn : D < h.next) :
    Runs Tryz.prog Γ (.code a6 none ⟨tm, 207, []⟩ h) (Fin Γ) := by
  obtain ⟨hl4, ho4⟩ := cellC_len n m p q
  obtain ⟨o, ho⟩ : ∃ o, cellOk n m p q = o := ⟨_, rfl⟩
  obtain ⟨cs, hcs⟩ : ∃ cs, cellC n m p q = cs := ⟨_, rfl⟩
  have hsp : splice zcell 0 cs = some cs := by rw [← hcs]; exact splice_all rfl hl4 ho4
  have hl4' : cs.length = 4 := by rw [← hcs]; exact hl4
  have hc1 := cell_runs Γ h S A1 A2 C N n m p q hn hm hs
  rw [ho, hcs] at hc1
  have apD := hs.apart d (by decide)
  refine runs_seq (runs_region ?_)
  refine ops_quiet (v := .ptr S 0) (fs := []) rfl (by simp only [quiet, e11]) rfl ?_
  refine ops_quiet (v := .lit (.int .i64 p)) (fs := []) rfl (by simp only [quiet, ev_set, e2]; rfl) rfl ?_
  refine ops_quiet (v := .lit (.int .i64 q)) (fs := []) rfl (by simp only [quiet, ev_set, e3]; rfl) rfl ?_
  refine ops_call (f := 9) (args := [.ptr S 0, .lit (.int .i64 p), .lit (.int .i64 q)]) rfl rfl (by simp [calleeOf, ev_set]; rfl) rfl ?_
  refine hc1.mono ?_
  rintro ⟨ex1, fr1, h1, v1⟩ ⟨hv1, hs1, hk1⟩
  have hv1 : v1 = .tuple [.agg cs, .lit (.bool o)] := hv1
  subst hv1
  have hs1 : ShAt h1 S A1 A2 C N n m := hs1
  have hk1 : Left2 h h1 A1 A2 := hk1
  have hr1 : RSh h1 X B1 B2 n m := hr.kept hk1.2 fun b hb hlt => hk1.1 b hlt (by omega) (by omega)
  have d1 := hk1.at d dn apD
  have hnew : ∀ b, b < h1.next → ((h1.objs.set h1.next (.cells zcell 45)).set h1.next (.cells cs 45)).get b = h1.objs.get b := fun b hb => (get_ne (Nat.ne_of_lt hb)).trans (get_ne (Nat.ne_of_lt hb))
  have hs2 : ShAt ⟨(h1.objs.set h1.next (.cells zcell 45)).set h1.next (.cells cs 45), h1.next + 1⟩ S A1 A2 C N n m := hs1.new (Nat.le_succ _) hnew
  have hr2 : RSh ⟨(h1.objs.set h1.next (.cells zcell 45)).set h1.next (.cells cs 45), h1.next + 1⟩ X B1 B2 n m := hr1.kept (Nat.le_succ _) fun b _ hb => hnew b hb
  have hc2 := refCell_runs Γ _ X B1 B2 n m p q hn hm hr2
  rw [ho, hcs] at hc2
  have d2 : ((h1.objs.set h1.next (.cells zcell 45)).set h1.next (.cells cs 45)).get D = some (.cells [.lit (.bool false)] 4) := (hnew D d1.2).trans d1.1
  refine ⟨_, rfl, ?_⟩
  refine ops_quiet (v := .tuple [.agg cs, .lit (.bool o)]) (fs := []) rfl rfl rfl ?_
  refine ops_quiet (v := .agg cs) (fs := []) rfl rfl rfl ?_
  refine ops_quiet (v := .lit (.bool o)) (fs := []) rfl rfl rfl ?_
  refine ops_effect (v := .ptr h1.next 0) (hp' := ⟨h1.objs.set h1.next (.cells zcell 45), h1.next + 1⟩) rfl rfl rfl rfl (Nat.le_succ _) rfl ?_
  refine ops_effect (v := .lit undef) (hp' := ⟨(h1.objs.set h1.next (.cells zcell 45)).set h1.next (.cells cs 45), h1.next + 1⟩) rfl rfl rfl (store_eff (n := 4) (v := .agg cs) (l := zcell) rfl (by simp only [ev_set]; rfl) (by simp only [ev_set]; rfl) hl4' get_same hsp) (Nat.le_refl _) rfl ?_
  refine ops_quiet (v := .lit (.bool o)) (fs := []) rfl rfl rfl ?_
  refine ops_nil ?_
  refine runs_seq (runs_region ?_)
  refine ops_quiet (v := .ptr X 0) (fs := []) rfl (by simp only [quiet, ev_set, e12]; rfl) rfl ?_
  refine ops_quiet (v := .lit (.int .i64 p)) (fs := []) rfl (by simp only [quiet, ev_set, e2]; rfl) rfl ?_
  refine ops_quiet (v := .lit (.int .i64 q)) (fs := []) rfl (by simp only [quiet, ev_set, e3]; rfl) rfl ?_
  refine ops_call (f := 10) (args := [.ptr X 0, .lit (.int .i64 p), .lit (.int .i64 q)]) rfl rfl (by simp [calleeOf, ev_set]; rfl) rfl ?_
  refine hc2.mono ?_
  rintro ⟨ex3, fr3, h3, v3⟩ ⟨hv3, hk3⟩
  have hv3 : v3 = .tuple [.agg cs, .lit (.bool o)] := hv3
  subst hv3
  have hk3 : Kept (h1.next + 1) ⟨(h1.objs.set h1.next (.cells zcell 45)).set h1.next (.cells cs 45), h1.next + 1⟩ h3 := hk3
  have hs3 : ShAt h3 S A1 A2 C N n m := hs2.new hk3.next hk3.old
  have hn3 : h1.next + 1 ≤ h3.next := hk3.next
  have v3' : h3.objs.get h1.next = some (.cells cs 45) := (hk3.old _ (Nat.lt_succ_self _)).trans get_same
  have d3 : h3.objs.get D = some (.cells [.lit (.bool false)] 4) := (hk3.old _ (Nat.lt_succ_of_lt d1.2)).trans d2
  have dn3 : D < h3.next := Nat.lt_of_lt_of_le (Nat.lt_succ_of_lt d1.2) hn3
  have hnew3 : ∀ b, b < h3.next → ((h3.objs.set h3.next (.cells zcell 45)).set h3.next (.cells cs 45)).get b = h3.objs.get b := fun b hb => (get_ne (Nat.ne_of_lt hb)).trans (get_ne (Nat.ne_of_lt hb))
  have hs4 : ShAt ⟨(h3.objs.set h3.next (.cells zcell 45)).set h3.next (.cells cs 45), h3.next + 1⟩ S A1 A2 C N n m := hs3.new (Nat.le_succ _) hnew3
  refine ⟨_, rfl, ?_⟩
  refine ops_quiet (v := .tuple [.agg cs, .lit (.bool o)]) (fs := []) rfl rfl rfl ?_
  refine ops_quiet (v := .agg cs) (fs := []) rfl rfl rfl ?_
  refine ops_quiet (v := .lit (.bool o)) (fs := []) rfl rfl rfl ?_
  refine ops_effect (v := .ptr h3.next 0) (hp' := ⟨h3.objs.set h3.next (.cells zcell 45), h3.next + 1⟩) rfl rfl rfl rfl (Nat.le_succ _) rfl ?_
  refine ops_effect (v := .lit undef) (hp' := ⟨(h3.objs.set h3.next (.cells zcell 45)).set h3.next (.cells cs 45), h3.next + 1⟩) rfl rfl rfl (store_eff (n := 4) (v := .agg cs) (l := zcell) rfl (by simp only [ev_set]; rfl) (by simp only [ev_set]; rfl) hl4' get_same hsp) (Nat.le_refl _) rfl ?_
  refine ops_quiet (v := .lit (.bool o)) (fs := []) rfl rfl rfl ?_
  refine ops_nil ?_
  subst hcs
  refine a8_runs Γ _ _ tx D S A1 A2 C N n m h1.next h3.next p q z hz hn hm o ?_ ?_ ?_ ?_ ?_ ?_ ?_ ?_ ?_ hs4 ((hnew3 D dn3).trans d3) (Nat.lt_succ_of_lt dn3) ((hnew3 _ hn3).trans v3') get_same (Nat.lt_succ_self _)
  · simp only [ev_set]; exact e2
  · simp only [ev_set]; exact e3
  · simp only [ev_set]; exact e4
  · simp only [ev_set]; exact e10
  · simp only [ev_set]; exact e11
  · simp only [ev_set]; rfl
  · simp only [ev_set]; rfl
  · simp only [ev_set]; rfl
  · simp only [ev_set]; rfl
end Go.Proofs.YtpfagdkpolhopaaGreatDoor.sheetNew
namespace Go.Proofs.YtpfagdkpolhopaaGreatDoor.sheetNew
open Go Go.Proofs.YtpfagdkpolhopaaGreatDoor.Ev

theorem numNe (x y : Operand) (n : Nat) : binQ Tryz.prog .neq 3 x y (numV n) (numV n) = some (.lit (.bool false)) := by
  have h : binQ Tryz.prog .neq 3 x y (numV n) (numV n) = some (.lit (.bool ((Int.ofNat n) != (Int.ofNat n)))) := rfl
  rw [h, bne_self_eq_false]
set_option maxHeartbeats 8000000 in
set_option maxRecDepth 20000 in
theorem a5_runs (Γ : Glob) (h : Hp) (tm : T SV) (tx v1 v2 : SV) (D S A1 A2 C N n m X B1 B2 : Nat) (p q : Int) (z : Value) (hz : ZC z) (hn : n ≤ 1000) (hm : m ≤ 1000)
    (hl1 : ∀ h, lenQ Tryz.prog h 27 v1 = some (numV n, [])) (hl2 : ∀ h, lenQ Tryz.prog h 27 v2 = some (numV m, []))
    (e2 : Fr.ev ⟨tm, 207, []⟩ (.tmp 2) = .lit (.int .i64 p)) (e3 : Fr.ev ⟨tm, 207, []⟩ (.tmp 3) = .lit (.int .i64 q)) (e4 : Fr.ev ⟨tm, 207, []⟩ (.tmp 4) = tx) (e10 : Fr.ev ⟨tm, 207, []⟩ (.tmp 10) = .ptr D 0) (e11 : Fr.ev ⟨tm, 207, []⟩ (.tmp 11) = .ptr S 0) (e12 : Fr.ev ⟨tm, 207, []⟩ (.tmp 12) = .ptr X 0) (e13 : Fr.ev ⟨tm, 207, []⟩ (.tmp 13) = v1) (e14 : Fr.ev ⟨tm, 207, []⟩ (.tmp 14) = v2)
    (hs : ShAt h S A1 A2 C N n m) (hr : RSh h X B1 B2 n m) (ha : A1 < B1 ∧ A2 < B1) (d : h.objs.get D = some (.cells [.lit (.bool false)] 4)) (dn : D < h.next) :
    Runs Tryz.prog Γ (.code a5 none ⟨tm, 207, []⟩ h) (Fin Γ) := by
  have hlen1 := len_runs Γ h _ A1 n hs.off1 hn hs.a1
  have apD := hs.apart d (by decide)
  refine runs_seq (runs_seq (runs_region ?_))
  refine ops_quiet (v := .ptr S 0) (fs := []) rfl (by simp only [quiet, e11]) rfl ?_
  refine ops_quiet (v := .lit (.bool false)) (fs := []) rfl rfl rfl ?_
  refine ops_quiet (v := .lit (.bool false)) (fs := []) rfl rfl rfl ?_
  refine ops_quiet (v := .ptr S 0) (fs := []) rfl (by simp only [quiet, ev_set, e11]; rfl) rfl ?_
  refine ops_quiet (v := .ptr S 0) (fs := []) rfl rfl rfl ?_
  refine ops_quiet (v := .ptr S 0) (fs := []) rfl rfl rfl ?_
  refine ops_quiet (v := .ptr A1 0) (fs := [.cells S 0 [.ptr A1 0]]) rfl (by simp only [quiet, ev_set]; exact load_cell rfl hs.s rfl) rfl ?_
  refine ops_quiet (v := .lit (.bool false)) (fs := []) rfl rfl rfl ?_
  refine ops_quiet (v := .lit (.bool false)) (fs := []) rfl rfl rfl ?_
  refine ops_quiet (v := .lit (.bool false)) (fs := []) rfl rfl rfl ?_
  refine ops_quiet (v := .ptr S 0) (fs := []) rfl (by simp only [quiet, ev_set, e11]; rfl) rfl ?_
  refine ops_quiet (v := .ptr S 0) (fs := []) rfl rfl rfl ?_
  refine ops_quiet (v := .ptr S 1) (fs := []) rfl rfl rfl ?_
  refine ops_quiet (v := .ptr A2 0) (fs := [.cells S 1 [.ptr A2 0]]) rfl (by simp only [quiet, ev_set]; exact load_cell rfl hs.s rfl) rfl ?_
  refine ops_quiet (v := .lit (.bool false)) (fs := []) rfl rfl rfl ?_
  refine ops_quiet (v := .lit (.bool false)) (fs := []) rfl rfl rfl ?_
  refine ops_quiet (v := .lit (.bool false)) (fs := []) rfl rfl rfl ?_
  refine ops_quiet (v := .ptr S 0) (fs := []) rfl (by simp only [quiet, ev_set, e11]; rfl) rfl ?_
  refine ops_quiet (v := .ptr S 0) (fs := []) rfl rfl rfl ?_
  refine ops_quiet (v := .ptr S 0) (fs := []) rfl rfl rfl ?_
  refine ops_quiet (v := .ptr A1 0) (fs := [.cells S 0 [.ptr A1 0]]) rfl (by simp only [quiet, ev_set]; exact load_cell rfl hs.s rfl) rfl ?_
  refine ops_call (f := 8) (args := [.ptr A1 0]) rfl rfl (by simp [calleeOf, ev_set]; rfl) rfl ?_
  refine hlen1.mono ?_
  rintro ⟨ex1, fr1, h1, w1⟩ ⟨hv1, hx1, hk1⟩
  have hv1 : w1 = numV n := hv1
  subst hv1
  have hk1 : Left h h1 A1 := hk1
  have hs1 : ShAt h1 S A1 A2 C N n m := hs.left1 hk1 (.inr hx1)
  have hr1 : RSh h1 X B1 B2 n m := hr.kept hk1.2 fun b hb hlt => hk1.1 b hlt (by omega)
  have d1 : h1.objs.get D = some (.cells [.lit (.bool false)] 4) := (hk1.1 D dn apD.1).trans d
  have dn1 : D < h1.next := Nat.lt_of_lt_of_le dn hk1.2
  have hlen2 := len_runs Γ h1 _ A2 m hs1.off2 hm hs1.a2
  refine ⟨_, rfl, ?_⟩
  refine ops_quiet (v := v1) (fs := []) rfl (by simp only [quiet, ev_set, e13]; rfl) rfl ?_
  refine ops_quiet (v := numV n) (fs := []) rfl (hl1 _) rfl ?_
  refine ops_quiet (v := .lit (.bool false)) (fs := []) rfl (by simp only [quiet, ev_set]; exact congrArg one (numNe _ _ n)) rfl ?_
  refine ops_quiet (v := .lit (.bool false)) (fs := []) rfl rfl rfl ?_
  refine ops_quiet (v := .lit (.bool false)) (fs := []) rfl rfl rfl ?_
  refine ops_quiet (v := .ptr S 0) (fs := []) rfl (by simp only [quiet, ev_set, e11]; rfl) rfl ?_
  refine ops_quiet (v := .ptr S 0) (fs := []) rfl rfl rfl ?_
  refine ops_quiet (v := .ptr S 1) (fs := []) rfl rfl rfl ?_
  refine ops_quiet (v := .ptr A2 0) (fs := [.cells S 1 [.ptr A2 0]]) rfl (by simp only [quiet, ev_set]; exact load_cell rfl hs1.s rfl) rfl ?_
  refine ops_call (f := 8) (args := [.ptr A2 0]) rfl rfl (by simp [calleeOf, ev_set]; rfl) rfl ?_
  refine hlen2.mono ?_
  rintro ⟨ex2, fr2, h2, w2⟩ ⟨hv2, hx2, hk2⟩
  have hv2 : w2 = numV m := hv2
  subst hv2
  have hk2 : Left h1 h2 A2 := hk2
  have hs2 : ShAt h2 S A1 A2 C N n m := hs1.left2 hk2 (.inr hx2)
  have hr2 : RSh h2 X B1 B2 n m := hr1.kept hk2.2 fun b hb hlt => hk2.1 b hlt (by omega)
  have d2 : h2.objs.get D = some (.cells [.lit (.bool false)] 4) := (hk2.1 D dn1 apD.2).trans d1
  have dn2 : D < h2.next := Nat.lt_of_lt_of_le dn1 hk2.2
  refine ⟨_, rfl, ?_⟩
  refine ops_quiet (v := v2) (fs := []) rfl (by simp only [quiet, ev_set, e14]; rfl) rfl ?_
  refine ops_quiet (v := numV m) (fs := []) rfl (hl2 _) rfl ?_
  refine ops_quiet (v := .lit (.bool false)) (fs := []) rfl (by simp only [quiet, ev_set]; exact congrArg one (numNe _ _ m)) rfl ?_
  refine ops_quiet (v := .lit (.bool false)) (fs := []) rfl rfl rfl ?_
  refine ops_nil ?_
  refine runs_cond false rfl (runs_skip ?_)
  refine a6_runs Γ h2 _ tx D S A1 A2 C N n m X B1 B2 p q z hz hn hm ?_ ?_ ?_ ?_ ?_ ?_ hs2 hr2 ha d2 dn2
  · simp only [ev_set]; exact e2
  · simp only [ev_set]; exact e3
  · simp only [ev_set]; exact e4
  · simp only [ev_set]; exact e10
  · simp only [ev_set]; exact e11
  · simp only [ev_set]; exact e12

noncomputable def a4 : Code := seqR (seqR (seqR (seqR body3)))
noncomputable def r5Ops : Array Oper := opsOf (seqL a4)
theorem row_len {h h' : Hp} {lo bl n : Nat} {v : SV} (hr : RowIs h lo bl 43 2 v (idsL n)) : lenQ Tryz.prog h' 27 v = some (numV n, []) := by
  have := RowIs.len (P := Tryz.prog) (h' := h') tyIds hr (nilIds h')
  rw [idsL_len] at this
  exact this

set_option maxHeartbeats 8000000 in
set_option maxRecDepth 20000 in
theorem a4_runs (Γ : Glob) (h : Hp) (tm : T SV) (tx : SV) (D S A1 A2 C N n m X B1 B2 : Nat) (p q : Int) (z : Value) (hz : ZC z) (hn : n ≤ 1000) (hm : m ≤ 1000)
    (e2 : Fr.ev ⟨tm, 207, []⟩ (.tmp 2) = .lit (.int .i64 p)) (e3 : Fr.ev ⟨tm, 207, []⟩ (.tmp 3) = .lit (.int .i64 q)) (e4 : Fr.ev ⟨tm, 207, []⟩ (.tmp 4) = tx) (e10 : Fr.ev ⟨tm, 207, []⟩ (.tmp 10) = .ptr D 0) (e11 : Fr.ev ⟨tm, 207, []⟩ (.tmp 11) = .ptr S 0) (e12 : Fr.ev ⟨tm, 207, []⟩ (.tmp 12) = .ptr X 0)
    (hs : ShAt h S A1 A2 C N n m) (hr : RSh h X B1 B2 n m) (ha : A1 < B1 ∧ A2 < B1) (d : h.objs.get D = some (.cells [.lit (.bool false)] 4)) (dn : D < h.next) :
    Runs Tryz.prog Γ (.code a4 none ⟨tm, 207, []⟩ h) (Fin Γ) := by
  obtain ⟨rest, hx⟩ := hr.x
  have t34 : Nat.testBit (descOf 3 r5Ops.toList 0 0) 4 = true := rfl
  have t84 : Nat.testBit (descOf 8 r5Ops.toList 0 0) 4 = false := rfl
  have t89 : Nat.testBit (descOf 8 r5Ops.toList 0 0) 9 = true := rfl
  have ho1 := order_runs Γ h B1 n hn hr.b1
  refine runs_seq (runs_drawn (ops := r5Ops) rfl ?_)
  refine drawn_call (i := 4) (f := 7) (args := [.ptr B1 0]) (m' := 495) (held' := [⟨descOf 8 r5Ops.toList 0 0, [.cells X 1 [.ptr B2 0]], none⟩, ⟨descOf 3 r5Ops.toList 0 0, [.cells X 0 [.ptr B1 0]], none⟩]) (hp' := h) (by
    refine take_quiet (v := .ptr X 0) rfl rfl rfl (by simp only [quiet, e12]) rfl ?_
    refine take_quiet (v := .ptr X 0) rfl rfl rfl (by simp only [quiet, ev_set]; rfl) rfl ?_
    refine take_quiet (v := .ptr X 0) rfl rfl rfl (by simp only [quiet, ev_set]; rfl) rfl ?_
    refine take_lean (v := .ptr B1 0) (fs := .cells X 0 [.ptr B1 0]) rfl rfl rfl (by simp only [quiet, ev_set]; exact load_cell rfl hx rfl) rfl ?_
    refine take_loud rfl rfl rfl rfl rfl ?_
    refine take_quiet (v := .ptr X 0) rfl rfl rfl (by simp only [quiet, ev_set, e12]; rfl) rfl ?_
    refine take_quiet (v := .ptr X 0) rfl rfl rfl (by simp only [quiet, ev_set]; rfl) rfl ?_
    refine take_quiet (v := .ptr X 1) rfl rfl rfl (by simp only [quiet, ev_set]; rfl) rfl ?_
    refine take_lean (v := .ptr B2 0) (fs := .cells X 1 [.ptr B2 0]) rfl rfl rfl (by simp only [quiet, ev_set]; exact load_cell rfl hx rfl) rfl ?_
    refine take_wait rfl rfl ?_
    refine take_wait rfl rfl ?_
    refine take_wait rfl rfl ?_
    rfl) (by rfl) (by rfl) (by simp [calleeOf, ev_set]; rfl) (by rfl) ?_
  refine ho1.mono ?_
  rintro ⟨ex1, fr1, h1, v1⟩ ⟨bl1, hrow1, hk1⟩
  have hrow1 : RowIs h1 h.next bl1 43 2 v1 (idsL n) := hrow1
  have hk1 : Kept h.next h h1 := hk1
  have hs1 : ShAt h1 S A1 A2 C N n m := hs.new hk1.next hk1.old
  have hr1 : RSh h1 X B1 B2 n m := hr.kept hk1.next fun b _ hb => hk1.old b hb
  have hx1 := (hk1.old X hr.xn).trans hx
  have f1 : factHolds h1 (.cells X 1 [.ptr B2 0]) = true := fact_one hx1 rfl (by simp [SV.sameL, SV.same])
  have hl1 : ∀ h', lenQ Tryz.prog h' 27 v1 = some (numV n, []) := fun h' => row_len hrow1
  have ho2 := order_runs Γ h1 B2 m hm hr1.b2
  refine ⟨h1.objs, _, rfl, rfl, by simp only [factsStand, t34, t84, cond_true, cond_false, List.all_cons, List.all_nil, f1, Bool.or_true, Bool.and_true], ?_⟩
  rw [show drop 4 [⟨descOf 8 r5Ops.toList 0 0, [.cells X 1 [.ptr B2 0]], none⟩, ⟨descOf 3 r5Ops.toList 0 0, [.cells X 0 [.ptr B1 0]], none⟩] = [⟨descOf 8 r5Ops.toList 0 0, [.cells X 1 [.ptr B2 0]], none⟩] from by simp only [drop, t34, t84, cond_true, cond_false]]
  refine drawn_call (i := 9) (f := 7) (args := [.ptr B2 0]) (m' := 511) (held' := [⟨descOf 8 r5Ops.toList 0 0, [.cells X 1 [.ptr B2 0]], none⟩]) (hp' := ⟨h1.objs, h1.next⟩) (by
    refine take_done rfl ?_
    refine take_done rfl ?_
    refine take_done rfl ?_
    refine take_done rfl ?_
    refine take_done rfl ?_
    refine take_done rfl ?_
    refine take_done rfl ?_
    refine take_done rfl ?_
    refine take_done rfl ?_
    refine take_loud rfl rfl rfl rfl rfl ?_
    refine take_wait rfl rfl ?_
    refine take_wait rfl rfl ?_
    rfl) (by rfl) (by rfl) (by simp [calleeOf, ev_set]; rfl) (by rfl) ?_
  refine ho2.mono ?_
  rintro ⟨ex2, fr2, h2, v2⟩ ⟨bl2, hrow2, hk2⟩
  have hrow2 : RowIs h2 h1.next bl2 43 2 v2 (idsL m) := hrow2
  have hk2 : Kept h1.next h1 h2 := hk2
  have hs2 : ShAt h2 S A1 A2 C N n m := hs1.new hk2.next hk2.old
  have hr2 : RSh h2 X B1 B2 n m := hr1.kept hk2.next fun b _ hb => hk2.old b hb
  have hl2 : ∀ h', lenQ Tryz.prog h' 27 v2 = some (numV m, []) := fun h' => row_len hrow2
  have dn1 : D < h1.next := Nat.lt_of_lt_of_le dn hk1.next
  have d2 : h2.objs.get D = some (.cells [.lit (.bool false)] 4) := (hk2.old D dn1).trans ((hk1.old D dn).trans d)
  have dn2 : D < h2.next := Nat.lt_of_lt_of_le dn1 hk2.next
  refine ⟨h2.objs, _, rfl, rfl, by simp only [factsStand, t89, cond_true, Bool.and_true], ?_⟩
  rw [show drop 9 [⟨descOf 8 r5Ops.toList 0 0, [.cells X 1 [.ptr B2 0]], none⟩] = [] from by simp only [drop, t89, cond_true]]
  refine drawn_end (m' := 4095) (held' := []) (hp' := ⟨h2.objs, h2.next⟩) (by
    refine take_done rfl ?_
    refine take_done rfl ?_
    refine take_done rfl ?_
    refine take_done rfl ?_
    refine take_done rfl ?_
    refine take_done rfl ?_
    refine take_done rfl ?_
    refine take_done rfl ?_
    refine take_done rfl ?_
    refine take_done rfl ?_
    refine take_quiet (v := v1) rfl rfl rfl (by simp only [quiet, ev_set]; rfl) rfl ?_
    refine take_quiet (v := v2) rfl rfl rfl (by simp only [quiet, ev_set]; rfl) rfl ?_
    rfl) rfl rfl ?_
  refine a5_runs Γ h2 _ tx v1 v2 D S A1 A2 C N n m X B1 B2 p q z hz hn hm hl1 hl2 ?_ ?_ ?_ ?_ ?_ ?_ ?_ ?_ hs2 hr2 ha d2 dn2
  · simp only [ev_set]; exact e2
  · simp only [ev_set]; exact e3
  · simp only [ev_set]; exact e4
  · simp only [ev_set]; exact e10
  · simp only [ev_set]; exact e11
  · simp only [ev_set]; exact e12
  · simp only [ev_set]; rfl
  · simp only [ev_set]; rfl

set_option maxHeartbeats 8000000 in
set_option maxRecDepth 20000 in
theorem law_runs (Γ : Glob) (h : Hp) (rows cols p q : Int) (tx : SV) : Runs Tryz.prog Γ (.call 3 [.lit (.int .i64 rows), .lit (.int .i64 cols), .lit (.int .i64 p), .lit (.int .i64 q), tx] h) fun r => r.v = .lit (.bool true) := by
  obtain ⟨z, hz⟩ := exZC
  have hs0 := sheetNew_runs Γ ⟨h.objs.set h.next (.cells [.lit (.bool false)] 4), h.next + 1⟩ rows cols
  refine runs_call Tryz.func3 rfl ?_
  refine runs_seq (runs_region ?_)
  refine ops_effect (v := .ptr h.next 0) (hp' := ⟨h.objs.set h.next (.cells [.lit (.bool false)] 4), h.next + 1⟩) rfl rfl rfl rfl (Nat.le_succ _) rfl ?_
  refine ops_nil ?_
  refine runs_seq (runs_seq (runs_region ?_))
  refine ops_call (f := 4) (args := []) rfl rfl rfl rfl ?_
  refine runs_told rfl ?_
  intro o hm
  have ho : o = ⟨.ret, ⟨.leaf, 0, []⟩, ⟨h.objs.set h.next (.cells [.lit (.bool false)] 4), h.next + 1⟩, .lit (.bool true)⟩ := List.mem_singleton.1 hm
  subst ho
  refine ⟨_, rfl, ?_⟩
  refine ops_quiet (v := .lit (.bool false)) (fs := []) rfl rfl rfl ?_
  refine ops_nil ?_
  refine runs_cond false rfl (runs_skip ?_)
  refine runs_seq (runs_region ?_)
  refine ops_quiet (v := .lit (.int .i64 rows)) (fs := []) rfl rfl rfl ?_
  refine ops_quiet (v := .lit (.int .i64 cols)) (fs := []) rfl rfl rfl ?_
  refine ops_call (f := 5) (args := [.lit (.int .i64 rows), .lit (.int .i64 cols)]) rfl rfl rfl rfl ?_
  refine hs0.mono ?_
  rintro ⟨ex1, fr1, h1, v1⟩ ⟨S, A1, A2, C, N, hv1, _, hs1, hk1⟩
  have hv1 : v1 = .ptr S 0 := hv1
  subst hv1
  have hs1 : ShAt h1 S A1 A2 C N (clamp rows) (clamp cols) := hs1
  have hk1 : Kept (h.next + 1) ⟨h.objs.set h.next (.cells [.lit (.bool false)] 4), h.next + 1⟩ h1 := hk1
  have d1 : h1.objs.get h.next = some (.cells [.lit (.bool false)] 4) := (hk1.old _ (Nat.lt_succ_self _)).trans get_same
  have dn1 : h.next < h1.next := hk1.next
  have hr0 := ref19New_runs Γ h1 rows cols
  refine ⟨_, rfl, ?_⟩
  refine ops_quiet (v := .ptr S 0) (fs := []) rfl rfl rfl ?_
  refine ops_nil ?_
  refine runs_seq (runs_region ?_)
  refine ops_quiet (v := .lit (.int .i64 rows)) (fs := []) rfl rfl rfl ?_
  refine ops_quiet (v := .lit (.int .i64 cols)) (fs := []) rfl rfl rfl ?_
  refine ops_call (f := 6) (args := [.lit (.int .i64 rows), .lit (.int .i64 cols)]) rfl rfl rfl rfl ?_
  refine hr0.mono ?_
  rintro ⟨ex2, fr2, h2, v2⟩ ⟨X, B1, B2, hv2, hb1, hr2, hk2⟩
  have hv2 : v2 = .ptr X 0 := hv2
  subst hv2
  have hr2 : RSh h2 X B1 B2 (clamp rows) (clamp cols) := hr2
  have hk2 : Kept h1.next h1 h2 := hk2
  have hs2 : ShAt h2 S A1 A2 C N (clamp rows) (clamp cols) := hs1.new hk2.next hk2.old
  have ha : A1 < B1 ∧ A2 < B1 := ⟨Nat.lt_of_lt_of_le hs1.a1.at hb1, Nat.lt_of_lt_of_le hs1.a2.at hb1⟩
  refine ⟨_, rfl, ?_⟩
  refine ops_quiet (v := .ptr X 0) (fs := []) rfl rfl rfl ?_
  refine ops_nil ?_
  refine a4_runs Γ h2 _ tx h.next S A1 A2 C N (clamp rows) (clamp cols) X B1 B2 p q z hz (clamp_le _) (clamp_le _) ?_ ?_ ?_ ?_ ?_ ?_ hs2 hr2 ha ((hk2.old _ dn1).trans d1) (Nat.lt_of_lt_of_le dn1 hk2.next)
  · rfl
  · rfl
  · rfl
  · rfl
  · rfl
  · rfl
end Go.Proofs.YtpfagdkpolhopaaGreatDoor.sheetNew
