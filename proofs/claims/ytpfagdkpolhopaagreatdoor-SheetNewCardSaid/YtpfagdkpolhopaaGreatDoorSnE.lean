/-
  THE DOCUMENT's SIDE: 'Order' AND 'counterpaneref19.New'; by the author of this claim, in the calculus of runs. | THE DOCUMENT's SIDE: '(*counterpaneref19.Sheet).Cell'; by the author of this claim, in the calculus of runs. | THE DOCUMENT's SIDE: '(*counterpaneref19.Sheet).Cell', whole; by the author of this claim, in the calculus of runs. | WHAT THE FUNCTIONS OF A SHEET TELL WHERE THERE IS NONE, OR A HALF ONE: nothing; by the author of this claim, in the calculus of runs.
-/
import Derived.Test.YtpfagdkpolhopaaGreatDoorSnD
namespace Go.Proofs.YtpfagdkpolhopaaGreatDoor.sheetNew
open Go Go.Proofs.YtpfagdkpolhopaaGreatDoor.Ev

noncomputable def ordLoop : Code := inBlk (seqR (seqL (seqR (seqR (bodyOf Tryz.f7)))))

set_option maxHeartbeats 8000000 in
set_option maxRecDepth 20000 in
theorem ord_loop (Γ : Glob) (A lo n bi bl : Nat) (vi vl : SV) (hn : n ≤ 1000) (hA0 : A < lo) (hvi : 0 < n → vi = .row bi 0 n n bi ∧ bi < lo) (hvl : 0 < n → vl = .row bl 0 n n bl ∧ bl < lo) (hlen : ∀ h, lenQ Tryz.prog h 27 vi = some (numV n, [])) :
    ∀ (rem k : Nat), k + rem = n → ∀ (tm : T SV) (h : Hp) (v : SV) (bv : Nat), Fr.ev ⟨tm, 32, []⟩ (.tmp 0) = .ptr A 0 → Fr.ev ⟨tm, 32, []⟩ (.tmp 3) = v → Fr.ev ⟨tm, 32, []⟩ (.tmp 4) = numV k →
      h.objs.get A = some (.cells (rC vi vl) 83) → (0 < n → h.objs.get bi = some (.row (idsL n).flatten 43 n bi 2)) → (0 < n → h.objs.get bl = some (.row (trues n).flatten 4 n bl 1)) → RowIs h lo bv 43 2 v (idsL k) → lo ≤ bv → lo ≤ h.next →
      Runs Tryz.prog Γ (.code ordLoop none ⟨tm, 32, []⟩ h) fun o => o.exit = .exit 0 ∧ ∃ (tm' : T SV) (bv' : Nat), o.fr = ⟨tm', 32, []⟩ ∧ RowIs o.hp lo bv' 43 2 (Fr.ev ⟨tm', 32, []⟩ (.tmp 3)) (idsL n) ∧ lo ≤ bv' ∧ Kept lo h o.hp := by
  intro rem
  induction rem with
  | zero =>
    intro k hkr tm h v bv e0 e3 e4 hA hi hl hv hbv hlo
    obtain rfl : k = n := by omega
    refine runs_loop ?_
    refine runs_seq (runs_seq (runs_region ?_))
    refine ops_quiet (v := numV k) (fs := []) rfl (by simp only [quiet, e4]) rfl ?_
    refine ops_quiet (v := .ptr A 0) (fs := []) rfl (by simp only [quiet, ev_set, e0]; rfl) rfl ?_
    refine ops_quiet (v := .ptr A 0) (fs := []) rfl (by simp only [quiet, ev_set]; rfl) rfl ?_
    refine ops_quiet (v := .ptr A 0) (fs := []) rfl (by simp only [quiet, ev_set]; rfl) rfl ?_
    refine ops_quiet (v := vi) (fs := [.cells A 0 [vi]]) rfl (by simp only [quiet, ev_set]; exact load_cell rfl hA rfl) rfl ?_
    refine ops_quiet (v := numV k) (fs := []) rfl (hlen h) rfl ?_
    refine ops_quiet (v := .lit (.bool false)) (fs := []) rfl (by
      simp only [quiet, ev_set]
      show one (some (.lit (.bool (decide ((k : Int) < k))))) = _
      rw [decide_eq_false (by omega)]
      rfl) rfl ?_
    refine ops_nil ?_
    refine runs_cond false (by simp [ev_set]) (runs_exit ?_)
    refine ⟨rfl, _, bv, rfl, ?_, hbv, Kept.refl _ _⟩
    simp only [ev_set, e3]
    exact hv
  | succ rem ihr =>
    intro k hkr tm h v bv e0 e3 e4 hA hi hl hv hbv hlo
    have hkn : k < n := by omega
    have hi := hi (by omega)
    have hl := hl (by omega)
    obtain ⟨rfl, hbi⟩ := hvi (by omega)
    obtain ⟨rfl, hbl⟩ := hvl (by omega)
    have hnb : (h.objs.set h.next (.cells (idC k) 43)).get h.next = some (.cells (idC k) 43) := get_same
    have hrow2 : RowIs ⟨h.objs.set h.next (.cells (idC k) 43), h.next + 1⟩ lo bv 43 2 v (idsL k) := hv.kept (Nat.le_succ _) fun hb _ => get_ne (by omega)
    obtain ⟨v', h', happ, hrow', hnx, hget⟩ := append_id (Γ := Γ) hrow2 (by omega) (Nat.le_succ_of_le hlo) hnb
    have hnx : h'.next = h.next + 2 := hnx
    have hold : ∀ b, b < lo → h'.objs.get b = h.objs.get b := fun b hb => by
      rw [hget b (by show b < h.next + 1; omega) (.inr (by omega))]
      exact get_ne (by omega)
    have hkept : Kept lo h h' := ⟨by omega, hold⟩
    have hle : h.next + 1 ≤ h'.next := by omega
    have hk1 : k ≤ 1000000 := by omega
    refine runs_loop ?_
    refine runs_seq (runs_seq (runs_region ?_))
    refine ops_quiet (v := numV k) (fs := []) rfl (by simp only [quiet, e4]) rfl ?_
    refine ops_quiet (v := .ptr A 0) (fs := []) rfl (by simp only [quiet, ev_set, e0]; rfl) rfl ?_
    refine ops_quiet (v := .ptr A 0) (fs := []) rfl (by simp only [quiet, ev_set]; rfl) rfl ?_
    refine ops_quiet (v := .ptr A 0) (fs := []) rfl (by simp only [quiet, ev_set]; rfl) rfl ?_
    refine ops_quiet (v := .row bi 0 n n bi) (fs := [.cells A 0 [.row bi 0 n n bi]]) rfl (by simp only [quiet, ev_set]; exact load_cell rfl hA rfl) rfl ?_
    refine ops_quiet (v := numV n) (fs := []) rfl (hlen h) rfl ?_
    refine ops_quiet (v := .lit (.bool true)) (fs := []) rfl (by
      simp only [quiet, ev_set]
      show one (some (.lit (.bool (decide ((k : Int) < n))))) = _
      rw [decide_eq_true (by omega)]
      rfl) rfl ?_
    refine ops_nil ?_
    refine runs_cond true (by simp [ev_set]) (runs_skip ?_)
    refine runs_seq (runs_block (runs_seq (runs_region ?_)))
    refine ops_quiet (v := .ptr A 0) (fs := []) rfl (by simp only [quiet, ev_set, e0]; rfl) rfl ?_
    refine ops_quiet (v := .ptr A 0) (fs := []) rfl (by simp only [quiet, ev_set]; rfl) rfl ?_
    refine ops_quiet (v := .ptr A 1) (fs := []) rfl (by simp only [quiet, ev_set]; rfl) rfl ?_
    refine ops_quiet (v := .row bl 0 n n bl) (fs := [.cells A 1 [.row bl 0 n n bl]]) rfl (by simp only [quiet, ev_set]; exact load_cell rfl hA rfl) rfl ?_
    refine ops_quiet (v := numV k) (fs := []) rfl (by simp only [quiet, ev_set, e4]; rfl) rfl ?_
    refine ops_quiet (v := .ptr bl (0 + k * 1)) (fs := []) rfl (by simp only [quiet, ev_set]; exact congrArg one (true_index hkn)) rfl ?_
    refine ops_quiet (v := .lit (.bool true)) (fs := [.cells bl (0 + k * 1) [.lit (.bool true)]]) rfl (by simp only [quiet, ev_set]; exact true_load hl hkn) rfl ?_
    refine ops_nil ?_
    refine runs_cond true (by simp [ev_set]) ?_
    refine runs_region ?_
    refine ops_quiet (v := v) (fs := []) rfl (by simp only [quiet, ev_set]; exact congrArg (fun v => some (v, [])) e3) rfl ?_
    refine ops_quiet (v := .ptr A 0) (fs := []) rfl (by simp only [quiet, ev_set, e0]; rfl) rfl ?_
    refine ops_quiet (v := .ptr A 0) (fs := []) rfl (by simp only [quiet, ev_set]; rfl) rfl ?_
    refine ops_quiet (v := .ptr A 0) (fs := []) rfl (by simp only [quiet, ev_set]; rfl) rfl ?_
    refine ops_quiet (v := .row bi 0 n n bi) (fs := [.cells A 0 [.row bi 0 n n bi]]) rfl (by simp only [quiet, ev_set]; exact load_cell rfl hA rfl) rfl ?_
    refine ops_quiet (v := numV k) (fs := []) rfl (by simp only [quiet, ev_set, e4]; rfl) rfl ?_
    refine ops_quiet (v := .ptr bi (0 + k * 2)) (fs := []) rfl (by simp only [quiet, ev_set]; exact congrArg one (row_index hkn)) rfl ?_
    refine ops_quiet (v := .agg (idC k)) (fs := [.cells bi (0 + k * 2) (idC k)]) rfl (by simp only [quiet, ev_set]; exact row_load hi hkn) rfl ?_
    refine ops_effect (v := .slice h.next 0 1 1) (hp' := ⟨h.objs.set h.next (.cells (idC k) 43), h.next + 1⟩) rfl rfl rfl rfl (Nat.le_succ _) rfl ?_
    refine ops_effect (v := v') (hp' := h') rfl rfl rfl (by simp only [effect, ev_set]; exact congrArg val happ) hle rfl ?_
    refine ops_quiet (v := v') (fs := []) rfl rfl rfl ?_
    refine ops_nil ?_
    rw [show ∀ fr hp v, atEnd 1 ⟨.normal, fr, hp, v⟩ = ⟨.normal, fr, hp, v⟩ from fun _ _ _ => rfl]
    refine runs_region ?_
    refine ops_quiet (v := numV k) (fs := []) rfl (by simp only [quiet, ev_set, e4]; rfl) rfl ?_
    refine ops_quiet (v := numV (k + 1)) (fs := []) rfl (by
      simp only [quiet, ev_set]
      show one (some (.lit (.int .i64 (IntKind.i64.wrap ((k : Int) + 1))))) = _
      rw [wrap_succ hk1]
      rfl) rfl ?_
    refine ops_quiet (v := numV (k + 1)) (fs := []) rfl rfl rfl ?_
    refine ops_nil ?_
    refine (ihr (k + 1) (by omega) _ h' v' (h.next + 1) ?_ ?_ ?_ ((hold A hA0).trans hA) (fun _ => (hold bi hbi).trans hi) (fun _ => (hold bl hbl).trans hl) hrow' (by omega) (by omega)).mono ?_
    · simp only [ev_set]; exact e0
    · simp only [ev_set]; rfl
    · simp only [ev_set]; rfl
    · rintro o ⟨g1, tm', bl', g2, g3, g4, g5⟩
      exact ⟨g1, tm', bl', g2, g3, g4, hkept.trans g5⟩

theorem RowIs.posB {h : Hp} {lo bl n : Nat} {v : SV} (hr : RowIs h lo bl 4 1 v (trues n)) (hn : 0 < n) : v = .row bl 0 n n bl ∧ bl < h.next ∧ h.objs.get bl = some (.row (trues n).flatten 4 n bl 1) := by
  have tl : (trues n).length = n := by simp [trues]
  rcases hr with ⟨_, r2⟩ | ⟨r1, _, r3, r4⟩
  · have := congrArg List.length r2
    rw [tl] at this
    simp at this
    omega
  · rw [tl] at r1 r4
    exact ⟨r1, r3, r4⟩

set_option maxHeartbeats 8000000 in
set_option maxRecDepth 20000 in
theorem order_runs (Γ : Glob) (h : Hp) (A n : Nat) (hn : n ≤ 1000) (hax : RefAx h A n) : Runs Tryz.prog Γ (.call 7 [.ptr A 0] h) fun r => ∃ bl, RowIs r.hp h.next bl 43 2 r.v (idsL n) ∧ Kept h.next h r.hp := by
  obtain ⟨hAn, vi, vl, lo, bi, bl, _, hA, hi, hl⟩ := hax
  have hlen : ∀ h', lenQ Tryz.prog h' 27 vi = some (numV n, []) := fun h' => by
    have := RowIs.len (P := Tryz.prog) tyIds hi (nilIds h')
    rw [idsL_len] at this
    exact this
  refine runs_call Tryz.func7 rfl ?_
  refine runs_seq (runs_region ?_)
  refine ops_quiet rfl rfl rfl ?_
  refine ops_nil ?_
  refine runs_seq (runs_region ?_)
  refine ops_quiet rfl rfl rfl ?_
  refine ops_nil ?_
  refine runs_seq (runs_seq (runs_region ?_))
  refine ops_quiet rfl rfl rfl ?_
  refine ops_nil ?_
  refine runs_block ?_
  refine (ord_loop Γ A h.next n bi bl vi vl hn hAn (fun hp => ⟨(RowIs.pos hi hp).1, (RowIs.pos hi hp).2.1⟩) (fun hp => ⟨(RowIs.posB hl hp).1, (RowIs.posB hl hp).2.1⟩) hlen n 0 (by omega) _ h (.lit (.slice none 0 0)) h.next rfl rfl rfl hA (fun hp => (RowIs.pos hi hp).2.2) (fun hp => (RowIs.posB hl hp).2.2) (.inl ⟨rfl, rfl⟩) (Nat.le_refl _) (Nat.le_refl _)).mono ?_
  rintro ⟨ex, fr, hp, v⟩ ⟨he, tm', bl', hfr, hrow, hbl, hkept⟩
  have he : ex = .exit 0 := he
  have hfr : fr = ⟨tm', 32, []⟩ := hfr
  subst he hfr
  rw [show atEnd 0 ⟨.exit 0, ⟨tm', 32, []⟩, hp, v⟩ = ⟨.normal, ⟨tm', 32, []⟩, hp, v⟩ from rfl]
  refine runs_seq (runs_region ?_)
  refine ops_quiet rfl rfl rfl ?_
  refine ops_quiet rfl rfl rfl ?_
  refine ops_nil ?_
  refine runs_ret ?_
  exact ⟨_, rfl, bl', hrow, hkept⟩

/-- The document's sheet of n rows and m columns: its cells are those of its type's zero behind the two axes. -/
structure RSh (h : Hp) (X B1 B2 n m : Nat) : Prop where
  x : ∃ rest, h.objs.get X = some (.cells (.ptr B1 0 :: .ptr B2 0 :: rest) 34)
  xn : X < h.next
  b1 : RefAx h B1 n
  b2 : RefAx h B2 m
  bx : B1 ≤ B2 ∧ B2 ≤ X
theorem RSh.kept {h h' : Hp} {X B1 B2 n m : Nat} (hs : RSh h X B1 B2 n m) (hn : h.next ≤ h'.next) (hg : ∀ b, B1 ≤ b → b < h.next → h'.objs.get b = h.objs.get b) : RSh h' X B1 B2 n m := by
  obtain ⟨rest, hx⟩ := hs.x
  have k := hs.bx
  exact ⟨⟨rest, (hg X (by omega) hs.xn).trans hx⟩, Nat.lt_of_lt_of_le hs.xn hn, hs.b1.kept hn hg, hs.b2.kept hn fun b hb => hg b (by omega), k⟩

set_option maxHeartbeats 8000000 in
set_option maxRecDepth 20000 in
theorem ref19New_runs (Γ : Glob) (h : Hp) (rows cols : Int) : Runs Tryz.prog Γ (.call 6 [.lit (.int .i64 rows), .lit (.int .i64 cols)] h) fun r => ∃ X B1 B2, r.v = .ptr X 0 ∧ h.next ≤ B1 ∧ RSh r.hp X B1 B2 (clamp rows) (clamp cols) ∧ Kept h.next h r.hp := by
  refine runs_call Tryz.func6 rfl ?_
  refine runs_seq (runs_region ?_)
  refine ops_quiet rfl rfl rfl ?_
  refine ops_nil ?_
  refine runs_seq (runs_region ?_)
  refine ops_quiet (v := .lit (.int .i64 rows)) (fs := []) rfl rfl rfl ?_
  refine ops_call (f := 24) (args := [.lit (.int .i64 rows)]) rfl rfl rfl rfl ?_
  refine (count_runs Γ h rows).mono ?_
  rintro ⟨ex1, fr1, h1, v1⟩ ⟨hv1, hh1⟩
  have hv1 : v1 = numV (clamp rows) := hv1
  have hh1 : h = h1 := Eq.symm hh1
  subst hv1 hh1
  refine ⟨_, rfl, ?_⟩
  refine ops_call (f := 23) (args := [numV (clamp rows)]) rfl rfl rfl rfl ?_
  refine (ids_runs Γ h1 (clamp rows) (clamp_le rows)).mono ?_
  rintro ⟨ex2, fr2, h2, v2⟩ ⟨bl2, hrow2, hk2⟩
  have hrow2 : RowIs h2 h1.next bl2 43 2 v2 (idsL (clamp rows)) := hrow2
  have hk2 : Kept h1.next h1 h2 := hk2
  refine ⟨_, rfl, ?_⟩
  refine ops_call (f := 22) (args := [v2]) rfl rfl rfl (clone_none Tryz.func22 rfl) ?_
  refine (refNew_runs Γ h2 v2 h1.next bl2 (clamp rows) (clamp_le rows) hrow2).mono ?_
  rintro ⟨ex3, fr3, h3, v3⟩ ⟨hv3, hax3, hk3⟩
  have hv3 : v3 = .ptr h2.next 0 := hv3
  subst hv3
  have hax3 : RefAx h3 h2.next (clamp rows) := hax3
  have hk3 : Kept h2.next h2 h3 := hk3
  refine ⟨_, rfl, ?_⟩
  refine ops_quiet (v := .lit (.int .i64 cols)) (fs := []) rfl rfl rfl ?_
  refine ops_call (f := 24) (args := [.lit (.int .i64 cols)]) rfl rfl rfl rfl ?_
  refine (count_runs Γ h3 cols).mono ?_
  rintro ⟨ex4, fr4, h4, v4⟩ ⟨hv4, hh4⟩
  have hv4 : v4 = numV (clamp cols) := hv4
  have hh4 : h3 = h4 := Eq.symm hh4
  subst hv4 hh4
  have hax3 : RefAx h4 h2.next (clamp rows) := hax3
  have hk3 : Kept h2.next h2 h4 := hk3
  refine ⟨_, rfl, ?_⟩
  refine ops_call (f := 23) (args := [numV (clamp cols)]) rfl rfl rfl rfl ?_
  refine (ids_runs Γ h4 (clamp cols) (clamp_le cols)).mono ?_
  rintro ⟨ex5, fr5, h5, v5⟩ ⟨bl5, hrow5, hk5⟩
  have hrow5 : RowIs h5 h4.next bl5 43 2 v5 (idsL (clamp cols)) := hrow5
  have hk5 : Kept h4.next h4 h5 := hk5
  refine ⟨_, rfl, ?_⟩
  refine ops_call (f := 22) (args := [v5]) rfl rfl rfl (clone_none Tryz.func22 rfl) ?_
  refine (refNew_runs Γ h5 v5 h4.next bl5 (clamp cols) (clamp_le cols) hrow5).mono ?_
  rintro ⟨ex6, fr6, h6, v6⟩ ⟨hv6, hax6, hk6⟩
  have hv6 : v6 = .ptr h5.next 0 := hv6
  subst hv6
  have hax6 : RefAx h6 h5.next (clamp cols) := hax6
  have hk6 : Kept h5.next h5 h6 := hk6
  refine ⟨_, rfl, ?_⟩
  refine ops_quiet (fs := []) rfl rfl rfl ?_
  refine ops_effect (v := .ptr h6.next 0) rfl rfl rfl rfl (Nat.le_succ _) rfl ?_
  refine ops_quiet rfl rfl rfl ?_
  refine ops_nil ?_
  refine runs_ret ?_
  refine ⟨_, rfl, h6.next, h2.next, h5.next, rfl, hk2.next, ⟨⟨_, get_same⟩, Nat.lt_succ_self _, ?_, ?_, ?_⟩, ⟨?_, fun b hb => ?_⟩⟩
  · refine (hax3.kept (h' := h6) (by have := hk5.next; have := hk6.next; omega) fun b _ hb => ?_).kept (Nat.le_succ _) fun b _ hb => get_ne (Nat.ne_of_lt hb)
    exact (hk6.old b (Nat.lt_of_lt_of_le hb hk5.next)).trans (hk5.old b hb)
  · exact hax6.kept (Nat.le_succ _) fun b _ hb => get_ne (Nat.ne_of_lt hb)
  · have := hk3.next
    have := hk5.next
    have := hk6.next
    exact ⟨by omega, by omega⟩
  · show h1.next ≤ h6.next + 1
    have := hk2.next
    have := hk3.next
    have := hk5.next
    have := hk6.next
    omega
  · have hb : b < h1.next := hb
    have a2 := hk2.next
    have a3 := hk3.next
    have a5 := hk5.next
    have a6 := hk6.next
    have n6 : b ≠ h6.next := by omega
    have n5 : b < h5.next := by omega
    have n4 : b < h4.next := by omega
    have n2 : b < h2.next := by omega
    exact (get_ne n6).trans ((hk6.old b n5).trans ((hk5.old b n4).trans ((hk3.old b n2).trans (hk2.old b hb))))
end Go.Proofs.YtpfagdkpolhopaaGreatDoor.sheetNew
namespace Go.Proofs.YtpfagdkpolhopaaGreatDoor.sheetNew
open Go Go.Proofs.YtpfagdkpolhopaaGreatDoor.Ev

noncomputable def rcEnd : Code := seqR (seqR (seqR (bodyOf Tryz.f10)))
noncomputable def rcFail : Code := thenOf (seqR (seqL rcEnd))
noncomputable def rcOk : Code := seqR rcEnd
noncomputable def rcOps : Array Oper := opsOf (seqL rcOk)

/-- What Cell tells in the end: this, and all that there was is as it was. -/
def RcPost (Γ : Glob) (h : Hp) (c : List SV) (o : Bool) (x : Out) : Prop := ∃ r, leave Tryz.prog Γ Tryz.f10 x = some [r] ∧ r.v = .tuple [.agg c, .lit (.bool o)] ∧ Kept h.next h r.hp

set_option maxHeartbeats 8000000 in
set_option maxRecDepth 20000 in
theorem rc_fail (Γ : Glob) (h h3 : Hp) (tm : T SV) (hD : h3.objs.get h.next = some (.cells zcell 45)) (hk : Kept h.next h h3) (e6 : Fr.ev ⟨tm, 48, []⟩ (.tmp 6) = .ptr h.next 0) :
    Runs Tryz.prog Γ (.code rcFail none ⟨tm, 48, []⟩ h3) fun o => Then (fun f p => Runs Tryz.prog Γ (.code rcOk none f p) (RcPost Γ h zcell false)) (RcPost Γ h zcell false) o := by
  have hfin : Kept h.next h ⟨h3.objs.set h.next (.cells zcell 45), h3.next⟩ := ⟨hk.next, fun b hb => (get_ne (Nat.ne_of_lt hb)).trans (hk.old b hb)⟩
  refine runs_seq (runs_region ?_)
  refine ops_quiet (v := .agg zcell) (fs := []) rfl rfl rfl ?_
  refine ops_effect (v := .lit undef) (hp' := ⟨h3.objs.set h.next (.cells zcell 45), h3.next⟩) rfl rfl rfl (store_eff (n := 4) (v := .agg zcell) (l := zcell) rfl (by simp only [ev_set]; exact e6) (by simp only [ev_set]; rfl) rfl hD rfl) (Nat.le_refl _) rfl ?_
  refine ops_quiet rfl rfl rfl ?_
  refine ops_nil ?_
  refine runs_ret ?_
  have hl := load_all (P := Tryz.prog) (Γ := Γ) (h := ⟨h3.objs.set h.next (.cells zcell 45), h3.next⟩) tyAggCell tySizeCell get_same rfl
  exact ⟨_, leave_two rfl rfl (by simp only [ev_set]; exact e6) hl (by simp only [ev_set]; rfl), rfl, hfin⟩

set_option maxHeartbeats 8000000 in
set_option maxRecDepth 20000 in
theorem rc_ok (Γ : Glob) (h h3 : Hp) (tm : T SV) (b1 b2 n m p q : Nat) (hp : p < n) (hq : q < m) (hD : h3.objs.get h.next = some (.cells zcell 45)) (hk : Kept h.next h h3) (h1 : h3.objs.get b1 = some (.row (idsL n).flatten 43 n b1 2)) (h2 : h3.objs.get b2 = some (.row (idsL m).flatten 43 m b2 2))
    (e1 : Fr.ev ⟨tm, 48, []⟩ (.tmp 1) = numV p) (e2 : Fr.ev ⟨tm, 48, []⟩ (.tmp 2) = numV q) (e6 : Fr.ev ⟨tm, 48, []⟩ (.tmp 6) = .ptr h.next 0) (e8 : Fr.ev ⟨tm, 48, []⟩ (.tmp 8) = .row b1 0 n n b1) (e9 : Fr.ev ⟨tm, 48, []⟩ (.tmp 9) = .row b2 0 m m b2) :
    Runs Tryz.prog Γ (.code rcOk none ⟨tm, 48, []⟩ h3) (RcPost Γ h (idC p ++ idC q) true) := by
  have hfin : Kept h.next h ⟨h3.objs.set h.next (.cells (idC p ++ idC q) 45), h3.next⟩ := ⟨hk.next, fun b hb => (get_ne (Nat.ne_of_lt hb)).trans (hk.old b hb)⟩
  have d3 : Nat.testBit (descOf 3 rcOps.toList 0 0) 9 = true := rfl
  have d7 : Nat.testBit (descOf 7 rcOps.toList 0 0) 9 = true := rfl
  refine runs_seq (runs_drawn (ops := rcOps) rfl ?_)
  refine drawn_end (m' := 2047) (held' := [⟨descOf 9 rcOps.toList 0 0, [], some (h.next, .cells (idC p ++ idC q) 45)⟩, ⟨descOf 7 rcOps.toList 0 0, [.cells b2 (0 + q * 2) (idC q)], none⟩, ⟨descOf 3 rcOps.toList 0 0, [.cells b1 (0 + p * 2) (idC p)], none⟩]) (hp' := ⟨h3.objs.set h.next (.cells (idC p ++ idC q) 45), h3.next⟩)
    (fr' := ⟨(((((((((tm.set 39 (.row b1 0 n n b1)).set 40 (numV p)).set 41 (.ptr b1 (0 + p * 2))).set 42 (.agg (idC p))).set 43 (.row b2 0 m m b2)).set 44 (numV q)).set 45 (.ptr b2 (0 + q * 2))).set 46 (.agg (idC q))).set 47 (.agg (idC p ++ idC q))).set 7 (.lit (.bool true)), 48, []⟩) (by
    refine take_quiet (v := .row b1 0 n n b1) rfl rfl rfl (by simp only [quiet, e8]) rfl ?_
    refine take_quiet (v := numV p) rfl rfl rfl (by simp only [quiet, ev_set, e1]; rfl) rfl ?_
    refine take_quiet (v := .ptr b1 (0 + p * 2)) rfl rfl rfl (by simp only [quiet, ev_set]; exact congrArg one (row_index hp)) rfl ?_
    refine take_lean (v := .agg (idC p)) (fs := .cells b1 (0 + p * 2) (idC p)) rfl rfl rfl (by simp only [quiet, ev_set]; exact row_load h1 hp) rfl ?_
    refine take_quiet (v := .row b2 0 m m b2) rfl rfl rfl (by simp only [quiet, ev_set, e9]; rfl) rfl ?_
    refine take_quiet (v := numV q) rfl rfl rfl (by simp only [quiet, ev_set, e2]; rfl) rfl ?_
    refine take_quiet (v := .ptr b2 (0 + q * 2)) rfl rfl rfl (by simp only [quiet, ev_set]; exact congrArg one (row_index hq)) rfl ?_
    refine take_lean (v := .agg (idC q)) (fs := .cells b2 (0 + q * 2) (idC q)) rfl rfl rfl (by simp only [quiet, ev_set]; exact row_load h2 hq) rfl ?_
    refine take_quiet (v := .agg (idC p ++ idC q)) rfl rfl rfl (by simp only [quiet]; rfl) rfl ?_
    refine take_local (v := .lit undef) (b := h.next) (nx := h3.next) (ob := .cells (idC p ++ idC q) 45) rfl rfl rfl rfl (local_store (h := h3) (n := 4) (v := .agg (idC p ++ idC q)) (l := zcell) rfl (by simp only [ev_set]; exact e6) (by simp only [ev_set]; rfl) rfl hD rfl) (by simp only [noneLeans, d3, d7, cond_true, Bool.and_true]) rfl ?_
    refine take_quiet (v := .lit (.bool true)) rfl rfl rfl rfl rfl ?_
    rfl) rfl rfl ?_
  refine runs_ret ?_
  have hl := load_all (P := Tryz.prog) (Γ := Γ) (h := ⟨h3.objs.set h.next (.cells (idC p ++ idC q) 45), h3.next⟩) tyAggCell tySizeCell get_same rfl
  exact ⟨_, leave_two rfl rfl (by simp only [ev_set]; exact e6) hl (by simp only [ev_set]; rfl), rfl, hfin⟩

set_option maxHeartbeats 16000000 in
set_option maxRecDepth 20000 in
theorem rc_end (Γ : Glob) (h h3 : Hp) (tm : T SV) (lo1 lo2 b1 b2 n m : Nat) (p q : Int) (v8 v9 : SV) (hD : h3.objs.get h.next = some (.cells zcell 45)) (hk : Kept h.next h h3) (hr8 : RowIs h3 lo1 b1 43 2 v8 (idsL n)) (hr9 : RowIs h3 lo2 b2 43 2 v9 (idsL m))
    (e1 : Fr.ev ⟨tm, 48, []⟩ (.tmp 1) = .lit (.int .i64 p)) (e2 : Fr.ev ⟨tm, 48, []⟩ (.tmp 2) = .lit (.int .i64 q)) (e6 : Fr.ev ⟨tm, 48, []⟩ (.tmp 6) = .ptr h.next 0) (e8 : Fr.ev ⟨tm, 48, []⟩ (.tmp 8) = v8) (e9 : Fr.ev ⟨tm, 48, []⟩ (.tmp 9) = v9) :
    Runs Tryz.prog Γ (.code rcEnd none ⟨tm, 48, []⟩ h3) (RcPost Γ h (cellC n m p q) (cellOk n m p q)) := by
  have hl8 : lenQ Tryz.prog h3 27 v8 = some (numV n, []) := by
    have := RowIs.len (P := Tryz.prog) (h' := h3) tyIds hr8 (nilIds h3)
    rw [idsL_len] at this
    exact this
  have hl9 : lenQ Tryz.prog h3 27 v9 = some (numV m, []) := by
    have := RowIs.len (P := Tryz.prog) (h' := h3) tyIds hr9 (nilIds h3)
    rw [idsL_len] at this
    exact this
  have bad : cellOk n m p q = false → cellC n m p q = zcell := fun e => by unfold cellC; rw [e]; rfl
  by_cases hp0 : p < 0
  · have ho : cellOk n m p q = false := by unfold cellOk atOk; rw [decide_eq_false (show ¬ 0 ≤ p by omega)]; rfl
    have dp : decide (p < 0) = true := decide_eq_true hp0
    rw [bad ho, ho]
    refine runs_seq (runs_seq (runs_region ?_))
    refine ops_quiet (v := .lit (.int .i64 p)) (fs := []) rfl (by simp only [quiet, e1]) rfl ?_
    refine ops_quiet (v := .lit (.bool true)) (fs := []) rfl (by
      simp only [quiet, ev_set]
      show one (some (.lit (.bool (decide (p < 0))))) = _
      rw [dp]
      rfl) rfl ?_
    refine ops_quiet (v := .lit (.bool true)) (fs := []) rfl (by simp only [quiet, ev_set]; rfl) rfl ?_
    refine ops_unwanted rfl rfl ?_
    refine ops_unwanted rfl rfl ?_
    refine ops_quiet (v := .lit (.bool true)) (fs := []) rfl (by simp only [quiet, ev_set]; rfl) rfl ?_
    refine ops_quiet (v := .lit (.bool true)) (fs := []) rfl (by simp only [quiet, ev_set]; rfl) rfl ?_
    refine ops_unwanted rfl rfl ?_
    refine ops_unwanted rfl rfl ?_
    refine ops_unwanted rfl rfl ?_
    refine ops_unwanted rfl rfl ?_
    refine ops_quiet (v := .lit (.bool true)) (fs := []) rfl (by simp only [quiet, ev_set]; rfl) rfl ?_
    refine ops_quiet (v := .lit (.bool true)) (fs := []) rfl (by simp only [quiet, ev_set]; rfl) rfl ?_
    refine ops_unwanted rfl rfl ?_
    refine ops_unwanted rfl rfl ?_
    refine ops_unwanted rfl rfl ?_
    refine ops_unwanted rfl rfl ?_
    refine ops_quiet (v := .lit (.bool true)) (fs := []) rfl (by simp only [quiet, ev_set]; rfl) rfl ?_
    refine ops_nil ?_
    refine runs_cond true (by simp [ev_set]) ?_
    refine rc_fail Γ h h3 _ hD hk ?_
    simp only [ev_set]; exact e6
  by_cases hq0 : q < 0
  · have ho : cellOk n m p q = false := by unfold cellOk atOk; rw [decide_eq_false (show ¬ 0 ≤ q by omega)]; simp
    have dp : decide (p < 0) = false := decide_eq_false hp0
    have dq : decide (q < 0) = true := decide_eq_true hq0
    rw [bad ho, ho]
    refine runs_seq (runs_seq (runs_region ?_))
    refine ops_quiet (v := .lit (.int .i64 p)) (fs := []) rfl (by simp only [quiet, e1]) rfl ?_
    refine ops_quiet (v := .lit (.bool false)) (fs := []) rfl (by
      simp only [quiet, ev_set]
      show one (some (.lit (.bool (decide (p < 0))))) = _
      rw [dp]
      rfl) rfl ?_
    refine ops_quiet (v := .lit (.bool false)) (fs := []) rfl (by simp only [quiet, ev_set]; rfl) rfl ?_
    refine ops_quiet (v := .lit (.int .i64 q)) (fs := []) rfl (by simp only [quiet, ev_set, e2]; rfl) rfl ?_
    refine ops_quiet (v := .lit (.bool true)) (fs := []) rfl (by
      simp only [quiet, ev_set]
      show one (some (.lit (.bool (decide (q < 0))))) = _
      rw [dq]
      rfl) rfl ?_
    refine ops_quiet (v := .lit (.bool true)) (fs := []) rfl (by simp only [quiet, ev_set]; rfl) rfl ?_
    refine ops_quiet (v := .lit (.bool true)) (fs := []) rfl (by simp only [quiet, ev_set]; rfl) rfl ?_
    refine ops_unwanted rfl rfl ?_
    refine ops_unwanted rfl rfl ?_
    refine ops_unwanted rfl rfl ?_
    refine ops_unwanted rfl rfl ?_
    refine ops_quiet (v := .lit (.bool true)) (fs := []) rfl (by simp only [quiet, ev_set]; rfl) rfl ?_
    refine ops_quiet (v := .lit (.bool true)) (fs := []) rfl (by simp only [quiet, ev_set]; rfl) rfl ?_
    refine ops_unwanted rfl rfl ?_
    refine ops_unwanted rfl rfl ?_
    refine ops_unwanted rfl rfl ?_
    refine ops_unwanted rfl rfl ?_
    refine ops_quiet (v := .lit (.bool true)) (fs := []) rfl (by simp only [quiet, ev_set]; rfl) rfl ?_
    refine ops_nil ?_
    refine runs_cond true (by simp [ev_set]) ?_
    refine rc_fail Γ h h3 _ hD hk ?_
    simp only [ev_set]; exact e6
  have dp : decide (p < 0) = false := decide_eq_false hp0
  have dq : decide (q < 0) = false := decide_eq_false hq0
  by_cases hpn : p ≥ (n : Int)
  · have ho : cellOk n m p q = false := by unfold cellOk atOk; rw [decide_eq_false (show ¬ p < (n : Int) by omega)]; simp
    have dn : decide (p ≥ (n : Int)) = true := decide_eq_true hpn
    rw [bad ho, ho]
    refine runs_seq (runs_seq (runs_region ?_))
    refine ops_quiet (v := .lit (.int .i64 p)) (fs := []) rfl (by simp only [quiet, e1]) rfl ?_
    refine ops_quiet (v := .lit (.bool false)) (fs := []) rfl (by
      simp only [quiet, ev_set]
      show one (some (.lit (.bool (decide (p < 0))))) = _
      rw [dp]
      rfl) rfl ?_
    refine ops_quiet (v := .lit (.bool false)) (fs := []) rfl (by simp only [quiet, ev_set]; rfl) rfl ?_
    refine ops_quiet (v := .lit (.int .i64 q)) (fs := []) rfl (by simp only [quiet, ev_set, e2]; rfl) rfl ?_
    refine ops_quiet (v := .lit (.bool false)) (fs := []) rfl (by
      simp only [quiet, ev_set]
      show one (some (.lit (.bool (decide (q < 0))))) = _
      rw [dq]
      rfl) rfl ?_
    refine ops_quiet (v := .lit (.bool false)) (fs := []) rfl (by simp only [quiet, ev_set]; rfl) rfl ?_
    refine ops_quiet (v := .lit (.bool false)) (fs := []) rfl (by simp only [quiet, ev_set]; rfl) rfl ?_
    refine ops_quiet (v := .lit (.int .i64 p)) (fs := []) rfl (by simp only [quiet, ev_set, e1]; rfl) rfl ?_
    refine ops_quiet (v := v8) (fs := []) rfl (by simp only [quiet, ev_set, e8]; rfl) rfl ?_
    refine ops_quiet (v := numV n) (fs := []) rfl hl8 rfl ?_
    refine ops_quiet (v := .lit (.bool true)) (fs := []) rfl (by
      simp only [quiet, ev_set]
      show one (some (.lit (.bool (decide (p ≥ (n : Int)))))) = _
      rw [dn]
      rfl) rfl ?_
    refine ops_quiet (v := .lit (.bool true)) (fs := []) rfl (by simp only [quiet, ev_set]; rfl) rfl ?_
    refine ops_quiet (v := .lit (.bool true)) (fs := []) rfl (by simp only [quiet, ev_set]; rfl) rfl ?_
    refine ops_unwanted rfl rfl ?_
    refine ops_unwanted rfl rfl ?_
    refine ops_unwanted rfl rfl ?_
    refine ops_unwanted rfl rfl ?_
    refine ops_quiet (v := .lit (.bool true)) (fs := []) rfl (by simp only [quiet, ev_set]; rfl) rfl ?_
    refine ops_nil ?_
    refine runs_cond true (by simp [ev_set]) ?_
    refine rc_fail Γ h h3 _ hD hk ?_
    simp only [ev_set]; exact e6
  have dn : decide (p ≥ (n : Int)) = false := decide_eq_false hpn
  by_cases hqm : q ≥ (m : Int)
  · have ho : cellOk n m p q = false := by unfold cellOk atOk; rw [decide_eq_false (show ¬ q < (m : Int) by omega)]; simp
    have dm : decide (q ≥ (m : Int)) = true := decide_eq_true hqm
    rw [bad ho, ho]
    refine runs_seq (runs_seq (runs_region ?_))
    refine ops_quiet (v := .lit (.int .i64 p)) (fs := []) rfl (by simp only [quiet, e1]) rfl ?_
    refine ops_quiet (v := .lit (.bool false)) (fs := []) rfl (by
      simp only [quiet, ev_set]
      show one (some (.lit (.bool (decide (p < 0))))) = _
      rw [dp]
      rfl) rfl ?_
    refine ops_quiet (v := .lit (.bool false)) (fs := []) rfl (by simp only [quiet, ev_set]; rfl) rfl ?_
    refine ops_quiet (v := .lit (.int .i64 q)) (fs := []) rfl (by simp only [quiet, ev_set, e2]; rfl) rfl ?_
    refine ops_quiet (v := .lit (.bool false)) (fs := []) rfl (by
      simp only [quiet, ev_set]
      show one (some (.lit (.bool (decide (q < 0))))) = _
      rw [dq]
      rfl) rfl ?_
    refine ops_quiet (v := .lit (.bool false)) (fs := []) rfl (by simp only [quiet, ev_set]; rfl) rfl ?_
    refine ops_quiet (v := .lit (.bool false)) (fs := []) rfl (by simp only [quiet, ev_set]; rfl) rfl ?_
    refine ops_quiet (v := .lit (.int .i64 p)) (fs := []) rfl (by simp only [quiet, ev_set, e1]; rfl) rfl ?_
    refine ops_quiet (v := v8) (fs := []) rfl (by simp only [quiet, ev_set, e8]; rfl) rfl ?_
    refine ops_quiet (v := numV n) (fs := []) rfl hl8 rfl ?_
    refine ops_quiet (v := .lit (.bool false)) (fs := []) rfl (by
      simp only [quiet, ev_set]
      show one (some (.lit (.bool (decide (p ≥ (n : Int)))))) = _
      rw [dn]
      rfl) rfl ?_
    refine ops_quiet (v := .lit (.bool false)) (fs := []) rfl (by simp only [quiet, ev_set]; rfl) rfl ?_
    refine ops_quiet (v := .lit (.bool false)) (fs := []) rfl (by simp only [quiet, ev_set]; rfl) rfl ?_
    refine ops_quiet (v := .lit (.int .i64 q)) (fs := []) rfl (by simp only [quiet, ev_set, e2]; rfl) rfl ?_
    refine ops_quiet (v := v9) (fs := []) rfl (by simp only [quiet, ev_set, e9]; rfl) rfl ?_
    refine ops_quiet (v := numV m) (fs := []) rfl hl9 rfl ?_
    refine ops_quiet (v := .lit (.bool true)) (fs := []) rfl (by
      simp only [quiet, ev_set]
      show one (some (.lit (.bool (decide (q ≥ (m : Int)))))) = _
      rw [dm]
      rfl) rfl ?_
    refine ops_quiet (v := .lit (.bool true)) (fs := []) rfl (by simp only [quiet, ev_set]; rfl) rfl ?_
    refine ops_nil ?_
    refine runs_cond true (by simp [ev_set]) ?_
    refine rc_fail Γ h h3 _ hD hk ?_
    simp only [ev_set]; exact e6
  · have dm : decide (q ≥ (m : Int)) = false := decide_eq_false hqm
    obtain ⟨k, rfl⟩ : ∃ k : Nat, p = Int.ofNat k := ⟨p.toNat, by show p = (p.toNat : Int); omega⟩
    obtain ⟨l, rfl⟩ : ∃ l : Nat, q = Int.ofNat l := ⟨q.toNat, by show q = (q.toNat : Int); omega⟩
    have hkn : k < n := by have : ¬ ((k : Int) ≥ (n : Int)) := hpn; omega
    have hlm : l < m := by have : ¬ ((l : Int) ≥ (m : Int)) := hqm; omega
    have o1 : atOk n (Int.ofNat k) = true := by simp [atOk]; omega
    have o2 : atOk m (Int.ofNat l) = true := by simp [atOk]; omega
    have ho : cellOk n m (Int.ofNat k) (Int.ofNat l) = true := by unfold cellOk; rw [o1, o2]; rfl
    have hc : cellC n m (Int.ofNat k) (Int.ofNat l) = idC k ++ idC l := by
      unfold cellC
      rw [ho, if_pos rfl]
      unfold atC
      rw [o1, o2, if_pos rfl, if_pos rfl]
      rfl
    rw [hc, ho]
    refine runs_seq (runs_seq (runs_region ?_))
    refine ops_quiet (v := .lit (.int .i64 (Int.ofNat k))) (fs := []) rfl (by simp only [quiet, e1]) rfl ?_
    refine ops_quiet (v := .lit (.bool false)) (fs := []) rfl (by
      simp only [quiet, ev_set]
      show one (some (.lit (.bool (decide (Int.ofNat k < 0))))) = _
      rw [dp]
      rfl) rfl ?_
    refine ops_quiet (v := .lit (.bool false)) (fs := []) rfl (by simp only [quiet, ev_set]; rfl) rfl ?_
    refine ops_quiet (v := .lit (.int .i64 (Int.ofNat l))) (fs := []) rfl (by simp only [quiet, ev_set, e2]; rfl) rfl ?_
    refine ops_quiet (v := .lit (.bool false)) (fs := []) rfl (by
      simp only [quiet, ev_set]
      show one (some (.lit (.bool (decide (Int.ofNat l < 0))))) = _
      rw [dq]
      rfl) rfl ?_
    refine ops_quiet (v := .lit (.bool false)) (fs := []) rfl (by simp only [quiet, ev_set]; rfl) rfl ?_
    refine ops_quiet (v := .lit (.bool false)) (fs := []) rfl (by simp only [quiet, ev_set]; rfl) rfl ?_
    refine ops_quiet (v := .lit (.int .i64 (Int.ofNat k))) (fs := []) rfl (by simp only [quiet, ev_set, e1]; rfl) rfl ?_
    refine ops_quiet (v := v8) (fs := []) rfl (by simp only [quiet, ev_set, e8]; rfl) rfl ?_
    refine ops_quiet (v := numV n) (fs := []) rfl hl8 rfl ?_
    refine ops_quiet (v := .lit (.bool false)) (fs := []) rfl (by
      simp only [quiet, ev_set]
      show one (some (.lit (.bool (decide (Int.ofNat k ≥ (n : Int)))))) = _
      rw [dn]
      rfl) rfl ?_
    refine ops_quiet (v := .lit (.bool false)) (fs := []) rfl (by simp only [quiet, ev_set]; rfl) rfl ?_
    refine ops_quiet (v := .lit (.bool false)) (fs := []) rfl (by simp only [quiet, ev_set]; rfl) rfl ?_
    refine ops_quiet (v := .lit (.int .i64 (Int.ofNat l))) (fs := []) rfl (by simp only [quiet, ev_set, e2]; rfl) rfl ?_
    refine ops_quiet (v := v9) (fs := []) rfl (by simp only [quiet, ev_set, e9]; rfl) rfl ?_
    refine ops_quiet (v := numV m) (fs := []) rfl hl9 rfl ?_
    refine ops_quiet (v := .lit (.bool false)) (fs := []) rfl (by
      simp only [quiet, ev_set]
      show one (some (.lit (.bool (decide (Int.ofNat l ≥ (m : Int)))))) = _
      rw [dm]
      rfl) rfl ?_
    refine ops_quiet (v := .lit (.bool false)) (fs := []) rfl (by simp only [quiet, ev_set]; rfl) rfl ?_
    refine ops_nil ?_
    refine runs_cond false (by simp [ev_set]) (runs_skip ?_)
    refine rc_ok Γ h h3 _ b1 b2 n m k l hkn hlm hD hk (RowIs.pos hr8 (by omega)).2.2 (RowIs.pos hr9 (by omega)).2.2 ?_ ?_ ?_ ?_ ?_
    · simp only [ev_set]; exact e1
    · simp only [ev_set]; exact e2
    · simp only [ev_set]; exact e6
    · simp only [ev_set]; exact e8.trans (RowIs.pos hr8 (by omega)).1
    · simp only [ev_set]; exact e9.trans (RowIs.pos hr9 (by omega)).1

end Go.Proofs.YtpfagdkpolhopaaGreatDoor.sheetNew
namespace Go.Proofs.YtpfagdkpolhopaaGreatDoor.sheetNew
open Go Go.Proofs.YtpfagdkpolhopaaGreatDoor.Ev

set_option maxHeartbeats 8000000 in
set_option maxRecDepth 20000 in
theorem refCell_runs (Γ : Glob) (h : Hp) (X B1 B2 n m : Nat) (p q : Int) (hn : n ≤ 1000) (hm : m ≤ 1000) (hs : RSh h X B1 B2 n m) : Runs Tryz.prog Γ (.call 10 [.ptr X 0, .lit (.int .i64 p), .lit (.int .i64 q)] h) fun r => r.v = .tuple [.agg (cellC n m p q), .lit (.bool (cellOk n m p q))] ∧ Kept h.next h r.hp := by
  have hs1 : RSh ⟨h.objs.set h.next (.cells zcell 45), h.next + 1⟩ X B1 B2 n m := hs.kept (Nat.le_succ _) fun b _ hb => get_ne (Nat.ne_of_lt hb)
  obtain ⟨rest, hx⟩ := hs1.x
  have ho1 := order_runs Γ ⟨h.objs.set h.next (.cells zcell 45), h.next + 1⟩ B1 n hn hs1.b1
  refine runs_call Tryz.func10 rfl ?_
  refine runs_seq (runs_region ?_)
  refine ops_effect (v := .ptr h.next 0) (hp' := ⟨h.objs.set h.next (.cells zcell 45), h.next + 1⟩) rfl rfl rfl rfl (Nat.le_succ _) rfl ?_
  refine ops_quiet rfl rfl rfl ?_
  refine ops_nil ?_
  refine runs_seq (runs_region ?_)
  refine ops_quiet (v := .ptr X 0) (fs := []) rfl rfl rfl ?_
  refine ops_quiet (v := .ptr X 0) (fs := []) rfl rfl rfl ?_
  refine ops_quiet (v := .ptr X 0) (fs := []) rfl rfl rfl ?_
  refine ops_quiet (v := .ptr B1 0) (fs := [.cells X 0 [.ptr B1 0]]) rfl (by simp only [quiet, ev_set]; exact load_cell rfl hx rfl) rfl ?_
  refine ops_call (f := 7) (args := [.ptr B1 0]) rfl rfl rfl rfl ?_
  refine ho1.mono ?_
  rintro ⟨ex1, fr1, h2, v8⟩ ⟨b1, hr8, hk2⟩
  have hr8 : RowIs h2 (h.next + 1) b1 43 2 v8 (idsL n) := hr8
  have hk2 : Kept (h.next + 1) ⟨h.objs.set h.next (.cells zcell 45), h.next + 1⟩ h2 := hk2
  have hs2 : RSh h2 X B1 B2 n m := hs1.kept hk2.next fun b _ hb => hk2.old b hb
  have hx2 : h2.objs.get X = some (.cells (.ptr B1 0 :: .ptr B2 0 :: rest) 34) := (hk2.old X hs1.xn).trans hx
  have ho2 := order_runs Γ h2 B2 m hm hs2.b2
  have hn2 : h.next + 1 ≤ h2.next := hk2.next
  have hlt2 : h.next < h2.next := hn2
  have hD2 : h2.objs.get h.next = some (.cells zcell 45) := (hk2.old h.next (Nat.lt_succ_self _)).trans get_same
  have hK2 : Kept h.next h h2 := ⟨Nat.le_of_lt hlt2, fun b hb => (hk2.old b (Nat.lt_succ_of_lt hb)).trans (get_ne (Nat.ne_of_lt hb))⟩
  refine ⟨_, rfl, ?_⟩
  refine ops_quiet (v := v8) (fs := []) rfl rfl rfl ?_
  refine ops_nil ?_
  refine runs_seq (runs_region ?_)
  refine ops_quiet (v := .ptr X 0) (fs := []) rfl rfl rfl ?_
  refine ops_quiet (v := .ptr X 0) (fs := []) rfl rfl rfl ?_
  refine ops_quiet (v := .ptr X 1) (fs := []) rfl rfl rfl ?_
  refine ops_quiet (v := .ptr B2 0) (fs := [.cells X 1 [.ptr B2 0]]) rfl (by simp only [quiet, ev_set]; exact load_cell rfl hx2 rfl) rfl ?_
  refine ops_call (f := 7) (args := [.ptr B2 0]) rfl rfl rfl rfl ?_
  refine ho2.mono ?_
  rintro ⟨ex2, fr2, h3, v9⟩ ⟨b2, hr9, hk3⟩
  have hr9 : RowIs h3 h2.next b2 43 2 v9 (idsL m) := hr9
  have hk3 : Kept h2.next h2 h3 := hk3
  have hD3 := (hk3.old h.next hlt2).trans hD2
  have hK3 : Kept h.next h h3 := hK2.trans (hk3.less (Nat.le_of_lt hlt2))
  have hr83 : RowIs h3 (h.next + 1) b1 43 2 v8 (idsL n) := hr8.kept hk3.next fun hb _ => hk3.old b1 hb
  refine ⟨_, rfl, ?_⟩
  refine ops_quiet (v := v9) (fs := []) rfl rfl rfl ?_
  refine ops_nil ?_
  refine rc_end Γ h h3 _ (h.next + 1) h2.next b1 b2 n m p q v8 v9 hD3 hK3 hr83 hr9 ?_ ?_ ?_ ?_ ?_
  · rfl
  · rfl
  · rfl
  · rfl
  · rfl
end Go.Proofs.YtpfagdkpolhopaaGreatDoor.sheetNew
namespace Go.Proofs.YtpfagdkpolhopaaGreatDoor.sheetNew
open Go Go.Proofs.YtpfagdkpolhopaaGreatDoor.Ev

/-- It is no whole sheet, whatever else is made. -/
def Nw (Γ : Glob) (tv : SV) (h : Hp) : Prop := ∀ h' : Hp, h.next ≤ h'.next → (∀ b, b < h.next → h'.objs.get b = h.objs.get b) → Runs Tryz.prog Γ (.call 26 [tv] h') fun r => r.v = .lit (.bool false) ∧ r.hp = h'
theorem Nw.here {Γ : Glob} {tv : SV} {h : Hp} (hw : Nw Γ tv h) : Runs Tryz.prog Γ (.call 26 [tv] h) fun r => r.v = .lit (.bool false) ∧ r.hp = h := hw h (Nat.le_refl _) fun _ _ => rfl
theorem Nw.new {Γ : Glob} {tv : SV} {h : Hp} (hw : Nw Γ tv h) (o : AObj) : Runs Tryz.prog Γ (.call 26 [tv] ⟨h.objs.set h.next o, h.next + 1⟩) fun r => r.v = .lit (.bool false) ∧ r.hp = ⟨h.objs.set h.next o, h.next + 1⟩ := hw _ (Nat.le_succ _) fun _ hb => get_ne (Nat.ne_of_lt hb)
theorem Nw.kept {Γ : Glob} {tv : SV} {h h' : Hp} (hw : Nw Γ tv h) (hk : Kept h.next h h') : Nw Γ tv h' := fun h2 h3 h4 => hw h2 (Nat.le_trans hk.next h3) fun b hb => (h4 b (Nat.lt_of_lt_of_le hb hk.next)).trans (hk.old b hb)

set_option maxHeartbeats 8000000 in
set_option maxRecDepth 20000 in
theorem nw_nil (Γ : Glob) (h : Hp) : Nw Γ (.lit (.pointer none)) h := fun h' _ _ => by
  refine runs_call Tryz.func26 rfl ?_
  refine runs_seq (runs_region ?_)
  refine ops_quiet rfl rfl rfl ?_
  refine ops_nil ?_
  refine runs_seq (runs_region ?_)
  refine ops_quiet (v := .lit (.pointer none)) (fs := []) rfl rfl rfl ?_
  refine ops_quiet (v := .lit (.bool false)) (fs := []) rfl rfl rfl ?_
  refine ops_quiet (v := .lit (.bool false)) (fs := []) rfl rfl rfl ?_
  refine ops_unwanted rfl rfl ?_
  refine ops_unwanted rfl rfl ?_
  refine ops_unwanted rfl rfl ?_
  refine ops_unwanted rfl rfl ?_
  refine ops_unwanted rfl rfl ?_
  refine ops_quiet (v := .lit (.bool false)) (fs := []) rfl rfl rfl ?_
  refine ops_quiet (v := .lit (.bool false)) (fs := []) rfl rfl rfl ?_
  refine ops_unwanted rfl rfl ?_
  refine ops_unwanted rfl rfl ?_
  refine ops_unwanted rfl rfl ?_
  refine ops_unwanted rfl rfl ?_
  refine ops_unwanted rfl rfl ?_
  refine ops_quiet (v := .lit (.bool false)) (fs := []) rfl rfl rfl ?_
  refine ops_quiet (v := .lit (.bool false)) (fs := []) rfl rfl rfl ?_
  refine ops_unwanted rfl rfl ?_
  refine ops_unwanted rfl rfl ?_
  refine ops_unwanted rfl rfl ?_
  refine ops_unwanted rfl rfl ?_
  refine ops_unwanted rfl rfl ?_
  refine ops_quiet (v := .lit (.bool false)) (fs := []) rfl rfl rfl ?_
  refine ops_quiet (v := .lit (.bool false)) (fs := []) rfl rfl rfl ?_
  refine ops_unwanted rfl rfl ?_
  refine ops_unwanted rfl rfl ?_
  refine ops_unwanted rfl rfl ?_
  refine ops_unwanted rfl rfl ?_
  refine ops_unwanted rfl rfl ?_
  refine ops_quiet (v := .lit (.bool false)) (fs := []) rfl rfl rfl ?_
  refine ops_quiet rfl rfl rfl ?_
  refine ops_nil ?_
  refine runs_ret ?_
  exact ⟨_, rfl, rfl, rfl⟩

/-- A half sheet's cells. -/
def halfC (A1 A2 : Nat) : List SV := [.ptr A1 0, .ptr A2 0, .lit (.pointer none), .lit (.pointer none)]
set_option maxHeartbeats 8000000 in
set_option maxRecDepth 20000 in
theorem nw_half (Γ : Glob) (h : Hp) (S A1 A2 : Nat) (hS0 : h.objs.get S = some (.cells (halfC A1 A2) 40)) (hSn : S < h.next) : Nw Γ (.ptr S 0) h := fun h' _ hold => by
  have hS : h'.objs.get S = some (.cells (halfC A1 A2) 40) := (hold S hSn).trans hS0
  refine runs_call Tryz.func26 rfl ?_
  refine runs_seq (runs_region ?_)
  refine ops_quiet rfl rfl rfl ?_
  refine ops_nil ?_
  refine runs_seq (runs_region ?_)
  refine ops_quiet (v := .ptr S 0) (fs := []) rfl rfl rfl ?_
  refine ops_quiet (v := .lit (.bool true)) (fs := []) rfl rfl rfl ?_
  refine ops_quiet (v := .lit (.bool true)) (fs := []) rfl rfl rfl ?_
  refine ops_quiet (v := .ptr S 0) (fs := []) rfl rfl rfl ?_
  refine ops_quiet (v := .ptr S 0) (fs := []) rfl rfl rfl ?_
  refine ops_quiet (v := .ptr S 0) (fs := []) rfl rfl rfl ?_
  refine ops_quiet (v := .ptr A1 0) (fs := [.cells S 0 [.ptr A1 0]]) rfl (by simp only [quiet, ev_set]; exact load_cell rfl hS rfl) rfl ?_
  refine ops_quiet (v := .lit (.bool true)) (fs := []) rfl rfl rfl ?_
  refine ops_quiet (v := .lit (.bool true)) (fs := []) rfl rfl rfl ?_
  refine ops_quiet (v := .lit (.bool true)) (fs := []) rfl rfl rfl ?_
  refine ops_quiet (v := .ptr S 0) (fs := []) rfl rfl rfl ?_
  refine ops_quiet (v := .ptr S 0) (fs := []) rfl rfl rfl ?_
  refine ops_quiet (v := .ptr S 1) (fs := []) rfl rfl rfl ?_
  refine ops_quiet (v := .ptr A2 0) (fs := [.cells S 1 [.ptr A2 0]]) rfl (by simp only [quiet, ev_set]; exact load_cell rfl hS rfl) rfl ?_
  refine ops_quiet (v := .lit (.bool true)) (fs := []) rfl rfl rfl ?_
  refine ops_quiet (v := .lit (.bool true)) (fs := []) rfl rfl rfl ?_
  refine ops_quiet (v := .lit (.bool true)) (fs := []) rfl rfl rfl ?_
  refine ops_quiet (v := .ptr S 0) (fs := []) rfl rfl rfl ?_
  refine ops_quiet (v := .ptr S 0) (fs := []) rfl rfl rfl ?_
  refine ops_quiet (v := .ptr S 2) (fs := []) rfl rfl rfl ?_
  refine ops_quiet (v := .lit (.pointer none)) (fs := [.cells S 2 [.lit (.pointer none)]]) rfl (by simp only [quiet, ev_set]; exact load_cell rfl hS rfl) rfl ?_
  refine ops_quiet (v := .lit (.bool false)) (fs := []) rfl rfl rfl ?_
  refine ops_quiet (v := .lit (.bool false)) (fs := []) rfl rfl rfl ?_
  refine ops_quiet (v := .lit (.bool false)) (fs := []) rfl rfl rfl ?_
  refine ops_unwanted rfl rfl ?_
  refine ops_unwanted rfl rfl ?_
  refine ops_unwanted rfl rfl ?_
  refine ops_unwanted rfl rfl ?_
  refine ops_unwanted rfl rfl ?_
  refine ops_quiet (v := .lit (.bool false)) (fs := []) rfl rfl rfl ?_
  refine ops_quiet rfl rfl rfl ?_
  refine ops_nil ?_
  refine runs_ret ?_
  exact ⟨_, rfl, rfl, rfl⟩

set_option maxHeartbeats 8000000 in
set_option maxRecDepth 20000 in
theorem cellN (Γ : Glob) (h : Hp) (tv : SV) (hw : Nw Γ tv h) : Runs Tryz.prog Γ (.call 9 [tv, .lit (.int .i64 0), .lit (.int .i64 0)] h) fun r => r.v = .tuple [.agg zcell, .lit (.bool false)] ∧ Kept h.next h r.hp := by
  have hw0 := hw.new (.cells zcell 45)
  have hfin : Kept h.next h ⟨(h.objs.set h.next (.cells zcell 45)).set h.next (.cells zcell 45), h.next + 1⟩ := ⟨Nat.le_succ _, fun b hb => (get_ne (Nat.ne_of_lt hb)).trans (get_ne (Nat.ne_of_lt hb))⟩
  refine runs_call Tryz.func9 rfl ?_
  refine runs_seq (runs_region ?_)
  refine ops_effect (v := .ptr h.next 0) (hp' := ⟨h.objs.set h.next (.cells zcell 45), h.next + 1⟩) rfl rfl rfl rfl (Nat.le_succ _) rfl ?_
  refine ops_quiet rfl rfl rfl ?_
  refine ops_nil ?_
  refine runs_seq (runs_seq (runs_region ?_))
  refine ops_quiet (v := tv) (fs := []) rfl rfl rfl ?_
  refine ops_call (f := 26) (args := [tv]) rfl rfl rfl (clone_none Tryz.func26 rfl) ?_
  refine hw0.mono ?_
  rintro ⟨ex, fr, hp, v⟩ ⟨hv, hhp⟩
  have hv : v = .lit (.bool false) := hv
  have hhp : hp = ⟨h.objs.set h.next (.cells zcell 45), h.next + 1⟩ := hhp
  subst hv hhp
  refine ⟨_, rfl, ?_⟩
  refine ops_quiet (v := .lit (.bool true)) (fs := []) rfl rfl rfl ?_
  refine ops_nil ?_
  refine runs_cond true rfl ?_
  refine runs_seq (runs_region ?_)
  refine ops_quiet (v := .agg zcell) (fs := []) rfl rfl rfl ?_
  refine ops_effect (v := .lit undef) (hp' := ⟨(h.objs.set h.next (.cells zcell 45)).set h.next (.cells zcell 45), h.next + 1⟩) rfl rfl rfl (store_eff (n := 4) (v := .agg zcell) (l := zcell) rfl rfl rfl rfl get_same rfl) (Nat.le_refl _) rfl ?_
  refine ops_quiet rfl rfl rfl ?_
  refine ops_nil ?_
  refine runs_ret ?_
  have hl := load_all (P := Tryz.prog) (Γ := Γ) (h := ⟨(h.objs.set h.next (.cells zcell 45)).set h.next (.cells zcell 45), h.next + 1⟩) tyAggCell tySizeCell get_same rfl
  exact ⟨_, leave_two rfl rfl rfl hl rfl, rfl, hfin⟩

set_option maxHeartbeats 8000000 in
set_option maxRecDepth 20000 in
theorem typeN (Γ : Glob) (h : Hp) (tv tx : SV) (hw : Nw Γ tv h) : Runs Tryz.prog Γ (.call 14 [tv, .lit (.int .i64 0), .lit (.int .i64 0), tx] h) fun r => r.v = .tuple [.lit (.int .i64 0), .lit (.int .i64 1)] ∧ r.hp = h := by
  have hw0 := hw.here
  refine runs_call Tryz.func14 rfl ?_
  refine runs_seq (runs_region ?_)
  refine ops_quiet rfl rfl rfl ?_
  refine ops_quiet rfl rfl rfl ?_
  refine ops_nil ?_
  refine runs_seq (runs_seq (runs_region ?_))
  refine ops_quiet (v := tv) (fs := []) rfl rfl rfl ?_
  refine ops_call (f := 26) (args := [tv]) rfl rfl rfl (clone_none Tryz.func26 rfl) ?_
  refine hw0.mono ?_
  rintro ⟨ex, fr, hp, v⟩ ⟨hv, hhp⟩
  have hv : v = .lit (.bool false) := hv
  have hhp : hp = h := hhp
  subst hv
  refine ⟨_, rfl, ?_⟩
  refine ops_quiet (v := .lit (.bool true)) (fs := []) rfl rfl rfl ?_
  refine ops_nil ?_
  refine runs_cond true rfl ?_
  refine runs_seq (runs_region ?_)
  refine ops_quiet rfl rfl rfl ?_
  refine ops_quiet rfl rfl rfl ?_
  refine ops_nil ?_
  refine runs_ret ?_
  exact ⟨_, rfl, rfl, hhp⟩

set_option maxHeartbeats 8000000 in
set_option maxRecDepth 20000 in
theorem textN (Γ : Glob) (h : Hp) (tv : SV) (hw : Nw Γ tv h) : Runs Tryz.prog Γ (.call 12 [tv, .lit (.int .i64 0), .lit (.int .i64 0)] h) fun r => r.v = noText ∧ r.hp = h := by
  have hw0 := hw.here
  refine runs_call Tryz.func12 rfl ?_
  refine runs_seq (runs_region ?_)
  refine ops_quiet rfl rfl rfl ?_
  refine ops_nil ?_
  refine runs_seq (runs_seq (runs_region ?_))
  refine ops_quiet (v := tv) (fs := []) rfl rfl rfl ?_
  refine ops_call (f := 26) (args := [tv]) rfl rfl rfl (clone_none Tryz.func26 rfl) ?_
  refine hw0.mono ?_
  rintro ⟨ex, fr, hp, v⟩ ⟨hv, hhp⟩
  have hv : v = .lit (.bool false) := hv
  have hhp : hp = h := hhp
  subst hv
  refine ⟨_, rfl, ?_⟩
  refine ops_quiet (v := .lit (.bool true)) (fs := []) rfl rfl rfl ?_
  refine ops_nil ?_
  refine runs_cond true rfl ?_
  refine runs_seq (runs_region ?_)
  refine ops_quiet rfl rfl rfl ?_
  refine ops_nil ?_
  refine runs_ret ?_
  exact ⟨_, rfl, rfl, hhp⟩

set_option maxHeartbeats 8000000 in
set_option maxRecDepth 20000 in
theorem cloneN (Γ : Glob) (h : Hp) (tv : SV) (hw : Nw Γ tv h) : Runs Tryz.prog Γ (.call 16 [tv] h) fun r => r.v = .lit (.pointer none) ∧ r.hp = h := by
  have hw0 := hw.here
  refine runs_call Tryz.func16 rfl ?_
  refine runs_seq (runs_region ?_)
  refine ops_quiet rfl rfl rfl ?_
  refine ops_nil ?_
  refine runs_seq (runs_seq (runs_region ?_))
  refine ops_quiet (v := tv) (fs := []) rfl rfl rfl ?_
  refine ops_call (f := 26) (args := [tv]) rfl rfl rfl (clone_none Tryz.func26 rfl) ?_
  refine hw0.mono ?_
  rintro ⟨ex, fr, hp, v⟩ ⟨hv, hhp⟩
  have hv : v = .lit (.bool false) := hv
  have hhp : hp = h := hhp
  subst hv
  refine ⟨_, rfl, ?_⟩
  refine ops_quiet (v := .lit (.bool true)) (fs := []) rfl rfl rfl ?_
  refine ops_nil ?_
  refine runs_cond true rfl ?_
  refine runs_seq (runs_region ?_)
  refine ops_quiet rfl rfl rfl ?_
  refine ops_nil ?_
  refine runs_ret ?_
  exact ⟨_, rfl, rfl, hhp⟩

set_option maxHeartbeats 8000000 in
set_option maxRecDepth 20000 in
theorem placeN (Γ : Glob) (h : Hp) (tv : SV) (cs : List SV) (hw : Nw Γ tv h) : Runs Tryz.prog Γ (.call 13 [tv, .agg cs] h) fun r => r.v = .tuple [.lit (.int .i64 0), .lit (.int .i64 0), .lit (.bool false)] ∧ Kept h.next h r.hp := by
  have hw0 := hw.new (.cells cs 45)
  have hfin : Kept h.next h ⟨h.objs.set h.next (.cells cs 45), h.next + 1⟩ := ⟨Nat.le_succ _, fun b hb => get_ne (Nat.ne_of_lt hb)⟩
  refine runs_call Tryz.func13 rfl ?_
  refine runs_seq (runs_region ?_)
  refine ops_effect (v := .ptr h.next 0) (hp' := ⟨h.objs.set h.next (.cells cs 45), h.next + 1⟩) rfl rfl rfl rfl (Nat.le_succ _) rfl ?_
  refine ops_quiet rfl rfl rfl ?_
  refine ops_quiet rfl rfl rfl ?_
  refine ops_quiet rfl rfl rfl ?_
  refine ops_nil ?_
  refine runs_seq (runs_seq (runs_region ?_))
  refine ops_quiet (v := tv) (fs := []) rfl rfl rfl ?_
  refine ops_call (f := 26) (args := [tv]) rfl rfl rfl (clone_none Tryz.func26 rfl) ?_
  refine hw0.mono ?_
  rintro ⟨ex, fr, hp, v⟩ ⟨hv, hhp⟩
  have hv : v = .lit (.bool false) := hv
  have hhp : hp = ⟨h.objs.set h.next (.cells cs 45), h.next + 1⟩ := hhp
  subst hv hhp
  refine ⟨_, rfl, ?_⟩
  refine ops_quiet (v := .lit (.bool true)) (fs := []) rfl rfl rfl ?_
  refine ops_nil ?_
  refine runs_cond true rfl ?_
  refine runs_seq (runs_region ?_)
  refine ops_quiet rfl rfl rfl ?_
  refine ops_quiet rfl rfl rfl ?_
  refine ops_quiet rfl rfl rfl ?_
  refine ops_nil ?_
  refine runs_ret ?_
  exact ⟨_, rfl, rfl, hfin⟩
end Go.Proofs.YtpfagdkpolhopaaGreatDoor.sheetNew
