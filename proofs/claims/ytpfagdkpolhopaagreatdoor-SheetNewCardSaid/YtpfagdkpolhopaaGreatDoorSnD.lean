/-
  'render.Entry' AND '(*sheet.Sheet).Text', where nothing is typed; by the author of this claim, in the calculus of runs. | THE DOCUMENT's SIDE: 'count' AND 'ids'; by the author of this claim, in the calculus of runs. | THE DOCUMENT's SIDE: 'Find'; by the author of this claim, in the calculus of runs. | THE DOCUMENT's SIDE: 'counterpaneref03.New'; by the author of this claim, in the calculus of runs. | THE DOCUMENT's SIDE: 'counterpaneref03.New', whole; by the author of this claim, in the calculus of runs.
-/
import Derived.Test.YtpfagdkpolhopaaGreatDoorSnC
namespace Go.Proofs.YtpfagdkpolhopaaGreatDoor.sheetNew
open Go Go.Proofs.YtpfagdkpolhopaaGreatDoor.Ev

def noText : SV := .lit (.string ⟨#[]⟩)
set_option maxHeartbeats 8000000 in
set_option maxRecDepth 20000 in
theorem entry_runs (Γ : Glob) (h : Hp) (A1 A2 : Nat) (z : Value) (hz : ZC z) : Runs Tryz.prog Γ (.call 29 [.agg (SV.cells (.lit z)), .ptr A1 0, .ptr A2 0] h) fun r => r.v = noText ∧ Kept h.next h r.hp := by
  have hk : Kept h.next h ⟨h.objs.set h.next (.cells (SV.cells (.lit z)) 60), h.next + 1⟩ := ⟨Nat.le_succ _, fun b hb => get_ne (Nat.ne_of_lt hb)⟩
  have hl : loadQ Tryz.prog Γ ⟨h.objs.set h.next (.cells (SV.cells (.lit z)) 60), h.next + 1⟩ 3 (.ptr h.next 0) = some (.lit (.int .i64 0), [.cells h.next 0 [.lit (.int .i64 0)]]) := load_cell rfl get_same hz.kind
  refine runs_call Tryz.func29 rfl ?_
  refine runs_seq (runs_region ?_)
  refine ops_effect (v := .ptr h.next 0) (hp' := ⟨h.objs.set h.next (.cells (SV.cells (.lit z)) 60), h.next + 1⟩) rfl rfl rfl rfl (Nat.le_succ _) rfl ?_
  refine ops_quiet rfl rfl rfl ?_
  refine ops_nil ?_
  refine runs_seq (runs_seq (runs_region ?_))
  refine ops_quiet (v := .ptr h.next 0) (fs := []) rfl rfl rfl ?_
  refine ops_quiet (v := .lit (.int .i64 0)) (fs := [.cells h.next 0 [.lit (.int .i64 0)]]) rfl (by simp only [quiet, ev_set]; exact hl) rfl ?_
  refine ops_nil ?_
  refine runs_block (runs_seq (runs_region ?_))
  refine ops_quiet (v := .lit (.bool false)) (fs := []) rfl rfl rfl ?_
  refine ops_quiet (v := .lit (.bool false)) (fs := []) rfl rfl rfl ?_
  refine ops_nil ?_
  refine runs_cond false rfl ?_
  refine runs_seq (runs_region ?_)
  refine ops_quiet (v := .lit (.bool false)) (fs := []) rfl rfl rfl ?_
  refine ops_quiet (v := .lit (.bool false)) (fs := []) rfl rfl rfl ?_
  refine ops_nil ?_
  refine runs_cond false rfl (runs_skip ?_)
  refine runs_seq (runs_region ?_)
  refine ops_quiet rfl rfl rfl ?_
  refine ops_nil ?_
  refine runs_ret ?_
  exact ⟨_, rfl, rfl, hk⟩

noncomputable def textOps : Array Oper := opsOf (seqL (seqR (seqR (bodyOf Tryz.f12))))
theorem fact_ptr {h : Hp} {S A1 A2 C N k A : Nat} (hS : h.objs.get S = some (.cells (shC A1 A2 C N) 40)) (hk : (shC A1 A2 C N)[k]? = some (.ptr A 0)) : factHolds h (.cells S k [.ptr A 0]) = true := fact_one hS hk (by simp [SV.sameL, SV.same])

set_option maxHeartbeats 8000000 in
set_option maxRecDepth 20000 in
theorem text_second (Γ : Glob) (h h2 : Hp) (S A1 A2 C N n m : Nat) (z : Value) (hz : ZC z) (tm : T SV) (held : List Held) (hheld : held = [⟨descOf 11 textOps.toList 0 0, [.cells S 1 [.ptr A2 0]], none⟩, ⟨descOf 7 textOps.toList 0 0, [.cells S 0 [.ptr A1 0]], none⟩]) (hs2 : ShAt h2 S A1 A2 C N n m) (hl2 : Left2 h h2 A1 A2)
    (e13 : Fr.ev ⟨tm, 23, []⟩ (.tmp 13) = .agg (SV.cells (.lit z))) (e17 : Fr.ev ⟨tm, 23, []⟩ (.tmp 17) = .ptr A1 0) (e21 : Fr.ev ⟨tm, 23, []⟩ (.tmp 21) = .ptr A2 0) (Φ : Out → Prop)
    (hΦ : ∀ (tm' : T SV) (h3 : Hp), Fr.ev ⟨tm', 23, []⟩ (.tmp 6) = noText → ShAt h3 S A1 A2 C N n m → Left2 h h3 A1 A2 → Φ ⟨.normal, ⟨tm', 23, []⟩, h3, .lit undef⟩) :
    RunsDrawn Tryz.prog Γ textOps 14 4095 held ⟨tm, 23, []⟩ h2 Φ := by
  subst hheld
  have e7 : Nat.testBit (descOf 7 textOps.toList 0 0) 12 = true := rfl
  have e11 : Nat.testBit (descOf 11 textOps.toList 0 0) 12 = true := rfl
  refine drawn_call (i := 12) (f := 29) (args := [.agg (SV.cells (.lit z)), .ptr A1 0, .ptr A2 0]) (m' := 4095) (fr' := ⟨tm, 23, []⟩) (held' := [⟨descOf 11 textOps.toList 0 0, [.cells S 1 [.ptr A2 0]], none⟩, ⟨descOf 7 textOps.toList 0 0, [.cells S 0 [.ptr A1 0]], none⟩]) (hp' := h2) (by
    refine take_done rfl ?_
    refine take_done rfl ?_
    refine take_done rfl ?_
    refine take_done rfl ?_
    refine take_done rfl ?_
    refine take_done rfl ?_
    refine take_done rfl ?_
    refine take_done rfl ?_
    refine take_done rfl ?_
    refine take_done rfl ?_
    refine take_done rfl ?_
    refine take_done rfl ?_
    refine take_loud rfl rfl rfl rfl rfl ?_
    refine take_wait rfl rfl ?_
    rfl) rfl rfl (by simp [calleeOf, e13, e17, e21]; rfl) rfl ?_
  refine (entry_runs Γ h2 A1 A2 z hz).mono ?_
  rintro ⟨ex3, fr3, h3, v3⟩ ⟨hv3, hk3⟩
  have hv3 : v3 = noText := hv3
  subst hv3
  have hk3 : Kept h2.next h2 h3 := hk3
  have hs3 : ShAt h3 S A1 A2 C N n m := hs2.new hk3.next hk3.old
  have hL3 : Left2 h h3 A1 A2 := hl2.trans ⟨fun b hb _ _ => hk3.old b hb, hk3.next⟩
  refine ⟨h3.objs, _, rfl, rfl, by simp only [factsStand, e7, e11, cond_true, Bool.and_true], ?_⟩
  rw [show drop 12 [⟨descOf 11 textOps.toList 0 0, [.cells S 1 [.ptr A2 0]], none⟩, ⟨descOf 7 textOps.toList 0 0, [.cells S 0 [.ptr A1 0]], none⟩] = [] from by simp only [drop, e7, e11, cond_true]]
  refine drawn_end (m' := 16383) (held' := []) (hp' := ⟨h3.objs, h3.next⟩) (by
    refine take_done rfl ?_
    refine take_done rfl ?_
    refine take_done rfl ?_
    refine take_done rfl ?_
    refine take_done rfl ?_
    refine take_done rfl ?_
    refine take_done rfl ?_
    refine take_done rfl ?_
    refine take_done rfl ?_
    refine take_done rfl ?_
    refine take_done rfl ?_
    refine take_done rfl ?_
    refine take_done rfl ?_
    refine take_quiet (v := noText) rfl rfl rfl (by simp only [quiet, ev_set]; rfl) rfl ?_
    rfl) rfl rfl ?_
  refine hΦ _ h3 ?_ hs3 hL3
  simp only [ev_set]
  rfl

set_option maxHeartbeats 8000000 in
set_option maxRecDepth 20000 in
theorem text_runs (Γ : Glob) (h : Hp) (S A1 A2 C N n m : Nat) (p q : Int) (z : Value) (hz : ZC z) (hn : n ≤ 1000) (hm : m ≤ 1000) (hs : ShAt h S A1 A2 C N n m) : Runs Tryz.prog Γ (.call 12 [.ptr S 0, .lit (.int .i64 p), .lit (.int .i64 q)] h) fun r => r.v = noText ∧ ShAt r.hp S A1 A2 C N n m ∧ Left2 h r.hp A1 A2 := by
  have hcont := content_runs Γ h S A1 A2 C N n m p q z hz hn hm hs
  have d7 : Nat.testBit (descOf 7 textOps.toList 0 0) 3 = false := rfl
  have d11 : Nat.testBit (descOf 11 textOps.toList 0 0) 3 = false := rfl
  refine runs_call Tryz.func12 rfl ?_
  refine runs_seq (runs_region ?_)
  refine ops_quiet rfl rfl rfl ?_
  refine ops_nil ?_
  refine runs_seq (runs_seq (runs_region ?_))
  refine ops_quiet (v := .ptr S 0) (fs := []) rfl rfl rfl ?_
  refine ops_call (f := 26) (args := [.ptr S 0]) rfl rfl rfl rfl ?_
  refine (whole_runs Γ h S A1 A2 C N hs.s).mono ?_
  rintro ⟨ex, fr, hp, v⟩ ⟨hv, hhp⟩
  have hv : v = .lit (.bool true) := hv
  have hhp : hp = h := hhp
  subst hv hhp
  refine ⟨_, rfl, ?_⟩
  refine ops_quiet (v := .lit (.bool false)) (fs := []) rfl rfl rfl ?_
  refine ops_nil ?_
  refine runs_cond false rfl (runs_skip ?_)
  refine runs_seq (runs_drawn (ops := textOps) rfl ?_)
  refine drawn_call (i := 3) (f := 11) (args := [.ptr S 0, .lit (.int .i64 p), .lit (.int .i64 q)]) (m' := 4087) (held' := [⟨descOf 11 textOps.toList 0 0, [.cells S 1 [.ptr A2 0]], none⟩, ⟨descOf 7 textOps.toList 0 0, [.cells S 0 [.ptr A1 0]], none⟩]) (hp' := hp) (by
    refine take_quiet (v := .ptr S 0) rfl rfl rfl rfl rfl ?_
    refine take_quiet (v := .lit (.int .i64 p)) rfl rfl rfl rfl rfl ?_
    refine take_quiet (v := .lit (.int .i64 q)) rfl rfl rfl rfl rfl ?_
    refine take_loud rfl rfl rfl rfl rfl ?_
    refine take_quiet (v := .ptr S 0) rfl rfl rfl rfl rfl ?_
    refine take_quiet (v := .ptr S 0) rfl rfl rfl rfl rfl ?_
    refine take_quiet (v := .ptr S 0) rfl rfl rfl rfl rfl ?_
    refine take_lean (v := .ptr A1 0) (fs := .cells S 0 [.ptr A1 0]) rfl rfl rfl (by simp only [quiet, ev_set]; exact load_cell rfl hs.s rfl) rfl ?_
    refine take_quiet (v := .ptr S 0) rfl rfl rfl rfl rfl ?_
    refine take_quiet (v := .ptr S 0) rfl rfl rfl rfl rfl ?_
    refine take_quiet (v := .ptr S 1) rfl rfl rfl rfl rfl ?_
    refine take_lean (v := .ptr A2 0) (fs := .cells S 1 [.ptr A2 0]) rfl rfl rfl (by simp only [quiet, ev_set]; exact load_cell rfl hs.s rfl) rfl ?_
    refine take_wait rfl rfl ?_
    refine take_wait rfl rfl ?_
    rfl) (by rfl) (by rfl) (by rfl) (by rfl) ?_
  refine hcont.mono ?_
  rintro ⟨ex2, fr2, h2, v2⟩ ⟨hv2, hs2, hl2⟩
  have hv2 : v2 = .agg (SV.cells (.lit z)) := hv2
  subst hv2
  have hs2 : ShAt h2 S A1 A2 C N n m := hs2
  have hl2 : Left2 hp h2 A1 A2 := hl2
  have f0 : factHolds h2 (.cells S 0 [.ptr A1 0]) = true := fact_ptr (k := 0) (A := A1) hs2.s rfl
  have f1 : factHolds h2 (.cells S 1 [.ptr A2 0]) = true := fact_ptr (k := 1) (A := A2) hs2.s rfl
  refine ⟨h2.objs, _, rfl, rfl, by simp only [factsStand, d7, d11, cond_false, List.all_cons, List.all_nil, f0, f1, Bool.or_true, Bool.and_true], ?_⟩
  refine text_second Γ hp h2 S A1 A2 C N n m z hz _ _ ?_ hs2 hl2 ?_ ?_ ?_ _ ?_
  · simp only [drop, d7, d11, cond_false]
  · rfl
  · rfl
  · rfl
  intro tm' h3 g6 hs3 hL3
  refine runs_ret ?_
  refine ⟨⟨.ret, ⟨tm', 23, []⟩, h3, noText⟩, ?_, rfl, hs3, hL3⟩
  simp only [leave, shutMarks]
  rw [show Tryz.f12.results.toList = [.tmp 6] from rfl]
  simp only [resultsQ, Option.map_some, g6]
end Go.Proofs.YtpfagdkpolhopaaGreatDoor.sheetNew
namespace Go.Proofs.YtpfagdkpolhopaaGreatDoor.sheetNew
open Go Go.Proofs.YtpfagdkpolhopaaGreatDoor.Ev

set_option maxHeartbeats 8000000 in
set_option maxRecDepth 20000 in
theorem count_runs (Γ : Glob) (h : Hp) (n : Int) : Runs Tryz.prog Γ (.call 24 [.lit (.int .i64 n)] h) fun r => r.v = numV (clamp n) ∧ r.hp = h := by
  obtain ⟨b1, hb1⟩ : ∃ b, decide (n < 0) = b := ⟨_, rfl⟩
  obtain ⟨b2, hb2⟩ : ∃ b, decide (n > 1000) = b := ⟨_, rfl⟩
  have c1 : b1 = true → numV (clamp n) = .lit (.int .i64 0) := fun e => by
    rw [e] at hb1
    have := of_decide_eq_true hb1
    have : clamp n = 0 := by unfold clamp; omega
    rw [this]; rfl
  have c2 : b2 = true → numV (clamp n) = .lit (.int .i64 1000) := fun e => by
    rw [e] at hb2
    have := of_decide_eq_true hb2
    have : clamp n = 1000 := by unfold clamp; omega
    rw [this]; rfl
  have c3 : b1 = false → b2 = false → numV (clamp n) = .lit (.int .i64 n) := fun e1 e2 => by
    rw [e1] at hb1
    rw [e2] at hb2
    have h1 := of_decide_eq_false hb1
    have h2 := of_decide_eq_false hb2
    have : Int.ofNat (clamp n) = n := by unfold clamp; show ((min (max n 0) 1000).toNat : Int) = n; omega
    unfold numV; rw [this]
  refine runs_call Tryz.func24 rfl ?_
  refine runs_seq (runs_region ?_)
  refine ops_quiet rfl rfl rfl ?_
  refine ops_nil ?_
  refine runs_seq (runs_seq (runs_region ?_))
  refine ops_quiet (v := .lit (.int .i64 n)) (fs := []) rfl rfl rfl ?_
  refine ops_quiet (v := .lit (.bool b1)) (fs := []) rfl (by rw [← hb1]; rfl) rfl ?_
  refine ops_nil ?_
  cases b1 with
  | true =>
    refine runs_cond true rfl ?_
    refine runs_seq (runs_region ?_)
    refine ops_quiet rfl rfl rfl ?_
    refine ops_nil ?_
    refine runs_ret ?_
    exact ⟨_, rfl, (c1 rfl).symm, rfl⟩
  | false =>
    refine runs_cond false rfl (runs_skip ?_)
    refine runs_seq (runs_seq (runs_region ?_))
    refine ops_quiet (v := .lit (.int .i64 n)) (fs := []) rfl rfl rfl ?_
    refine ops_quiet (v := .lit (.bool b2)) (fs := []) rfl (by rw [← hb2]; rfl) rfl ?_
    refine ops_nil ?_
    cases b2 with
    | true =>
      refine runs_cond true rfl ?_
      refine runs_seq (runs_region ?_)
      refine ops_quiet rfl rfl rfl ?_
      refine ops_nil ?_
      refine runs_ret ?_
      exact ⟨_, rfl, (c2 rfl).symm, rfl⟩
    | false =>
      refine runs_cond false rfl (runs_skip ?_)
      refine runs_seq (runs_region ?_)
      refine ops_quiet (v := .lit (.int .i64 n)) (fs := []) rfl rfl rfl ?_
      refine ops_quiet rfl rfl rfl ?_
      refine ops_nil ?_
      refine runs_ret ?_
      exact ⟨_, rfl, (c3 rfl rfl).symm, rfl⟩

noncomputable def idsLoop : Code := inBlk (seqR (seqL (seqR (seqR (bodyOf Tryz.f23)))))

set_option maxHeartbeats 4000000 in
set_option maxRecDepth 20000 in
theorem ids_loop (Γ : Glob) (lo n : Nat) (hn : n ≤ 1000) : ∀ (rem k : Nat), k + rem = n → ∀ (tm : T SV) (h : Hp) (v : SV) (bl : Nat), Fr.ev ⟨tm, 16, []⟩ (.tmp 3) = v → Fr.ev ⟨tm, 16, []⟩ (.tmp 0) = numV n → Fr.ev ⟨tm, 16, []⟩ (.tmp 4) = numV (k + 1) →
    RowIs h lo bl 43 2 v (idsL k) → lo ≤ bl → lo ≤ h.next →
    Runs Tryz.prog Γ (.code idsLoop none ⟨tm, 16, []⟩ h) fun o => o.exit = .exit 0 ∧ ∃ (tm' : T SV) (bl' : Nat), o.fr = ⟨tm', 16, []⟩ ∧ RowIs o.hp lo bl' 43 2 (Fr.ev ⟨tm', 16, []⟩ (.tmp 3)) (idsL n) ∧ lo ≤ bl' ∧ Kept lo h o.hp := by
  intro rem
  induction rem with
  | zero =>
    intro k hkr tm h v bl e3 e0 e4 hrow hbl hlo
    obtain rfl : k = n := by omega
    refine runs_loop ?_
    refine runs_seq (runs_seq (runs_region ?_))
    refine ops_quiet (v := numV (k + 1)) (fs := []) rfl (by simp only [quiet, e4]) rfl ?_
    refine ops_quiet (v := numV k) (fs := []) rfl (by simp only [quiet, ev_set, e0]; rfl) rfl ?_
    refine ops_quiet (v := .lit (.bool false)) (fs := []) rfl (by
      simp only [quiet, ev_set]
      show one (some (.lit (.bool (decide (((k + 1 : Nat) : Int) ≤ (k : Int)))))) = _
      rw [decide_eq_false (by omega)]
      rfl) rfl ?_
    refine ops_nil ?_
    refine runs_cond false (by simp [ev_set]) (runs_exit ?_)
    refine ⟨rfl, _, bl, rfl, ?_, hbl, Kept.refl _ _⟩
    simp only [ev_set, e3]
    exact hrow
  | succ rem ihr =>
    intro k hkr tm h v bl e3 e0 e4 hrow hbl hlo
    have hnb : (h.objs.set h.next (.cells (idC k) 43)).get h.next = some (.cells (idC k) 43) := get_same
    have hrow2 : RowIs ⟨h.objs.set h.next (.cells (idC k) 43), h.next + 1⟩ lo bl 43 2 v (idsL k) := hrow.kept (Nat.le_succ _) fun hb _ => get_ne (by omega)
    obtain ⟨v', h', happ, hrow', hnx, hget⟩ := append_id (Γ := Γ) hrow2 (by omega) (Nat.le_succ_of_le hlo) hnb
    have hnx : h'.next = h.next + 2 := hnx
    have hkept : Kept lo h h' := ⟨by omega, fun b hb => by
      rw [hget b (by show b < h.next + 1; omega) (.inr (by omega))]
      exact get_ne (by omega)⟩
    have hle : h.next + 1 ≤ h'.next := by omega
    refine runs_loop ?_
    refine runs_seq (runs_seq (runs_region ?_))
    refine ops_quiet (v := numV (k + 1)) (fs := []) rfl (by simp only [quiet, e4]) rfl ?_
    refine ops_quiet (v := numV n) (fs := []) rfl (by simp only [quiet, ev_set, e0]; rfl) rfl ?_
    refine ops_quiet (v := .lit (.bool true)) (fs := []) rfl (by
      simp only [quiet, ev_set]
      show one (some (.lit (.bool (decide (((k + 1 : Nat) : Int) ≤ (n : Int)))))) = _
      rw [decide_eq_true (by omega)]
      rfl) rfl ?_
    refine ops_nil ?_
    refine runs_cond true (by simp [ev_set]) (runs_skip ?_)
    refine runs_seq (runs_block (runs_region ?_))
    refine ops_quiet (v := v) (fs := []) rfl (by simp only [quiet, ev_set]; exact congrArg (fun v => some (v, [])) e3) rfl ?_
    refine ops_quiet (v := numV (k + 1)) (fs := []) rfl (by simp only [quiet, ev_set, e4]; rfl) rfl ?_
    refine ops_quiet (v := .agg (idC k)) (fs := []) rfl (by simp only [quiet]; rfl) rfl ?_
    refine ops_effect (v := .slice h.next 0 1 1) (hp' := ⟨h.objs.set h.next (.cells (idC k) 43), h.next + 1⟩) rfl rfl rfl rfl (Nat.le_succ _) rfl ?_
    refine ops_effect (v := v') (hp' := h') rfl rfl rfl (by simp only [effect, ev_set]; exact congrArg val happ) hle rfl ?_
    refine ops_quiet (v := v') (fs := []) rfl rfl rfl ?_
    refine ops_nil ?_
    rw [show ∀ fr hp v, atEnd 1 ⟨.normal, fr, hp, v⟩ = ⟨.normal, fr, hp, v⟩ from fun _ _ _ => rfl]
    refine runs_region ?_
    refine ops_quiet (v := numV (k + 1)) (fs := []) rfl (by simp only [quiet, ev_set, e4]; rfl) rfl ?_
    refine ops_quiet (v := numV (k + 1 + 1)) (fs := []) rfl (by
      simp only [quiet, ev_set]
      show one (some (.lit (.int .i64 (IntKind.i64.wrap (((k + 1 : Nat) : Int) + 1))))) = _
      rw [wrap_succ (by omega)]
      rfl) rfl ?_
    refine ops_quiet (v := numV (k + 1 + 1)) (fs := []) rfl rfl rfl ?_
    refine ops_nil ?_
    refine (ihr (k + 1) (by omega) _ h' v' (h.next + 1) ?_ ?_ ?_ hrow' (by omega) (by omega)).mono ?_
    · simp only [ev_set]; rfl
    · simp only [ev_set]; exact e0
    · simp only [ev_set]; rfl
    · rintro o ⟨g1, tm', bl', g2, g3, g4, g5⟩
      exact ⟨g1, tm', bl', g2, g3, g4, hkept.trans g5⟩

set_option maxHeartbeats 4000000 in
set_option maxRecDepth 20000 in
theorem ids_runs (Γ : Glob) (h : Hp) (n : Nat) (hn : n ≤ 1000) : Runs Tryz.prog Γ (.call 23 [numV n] h) fun r => ∃ bl, RowIs r.hp h.next bl 43 2 r.v (idsL n) ∧ Kept h.next h r.hp := by
  refine runs_call Tryz.func23 rfl ?_
  refine runs_seq (runs_region ?_)
  refine ops_quiet rfl rfl rfl ?_
  refine ops_nil ?_
  refine runs_seq (runs_region ?_)
  refine ops_quiet rfl rfl rfl ?_
  refine ops_nil ?_
  refine runs_seq (runs_seq (runs_region ?_))
  refine ops_quiet rfl rfl rfl ?_
  refine ops_nil ?_
  refine runs_block ?_
  refine (ids_loop Γ h.next n hn n 0 (by omega) _ h (.lit (.slice none 0 0)) h.next rfl rfl rfl (.inl ⟨rfl, rfl⟩) (Nat.le_refl _) (Nat.le_refl _)).mono ?_
  rintro ⟨ex, fr, hp, v⟩ ⟨he, tm', bl', hfr, hrow, hbl, hkept⟩
  have he : ex = .exit 0 := he
  have hfr : fr = ⟨tm', 16, []⟩ := hfr
  subst he hfr
  rw [show atEnd 0 ⟨.exit 0, ⟨tm', 16, []⟩, hp, v⟩ = ⟨.normal, ⟨tm', 16, []⟩, hp, v⟩ from rfl]
  refine runs_seq (runs_region ?_)
  refine ops_quiet rfl rfl rfl ?_
  refine ops_quiet rfl rfl rfl ?_
  refine ops_nil ?_
  refine runs_ret ?_
  exact ⟨_, rfl, bl', hrow, hkept⟩
end Go.Proofs.YtpfagdkpolhopaaGreatDoor.sheetNew
namespace Go.Proofs.YtpfagdkpolhopaaGreatDoor.sheetNew
open Go Go.Proofs.YtpfagdkpolhopaaGreatDoor.Ev

def eqTailB (P : Program) (c : Bool) : Option Value :=
  pureRun P (((((if (!c) = true then pure (ForInStep.done (some false, ())) else pure (ForInStep.yield (none, ()))) : Sem (ForInStep (Option Bool × Unit))) >>= fun s => (match s with
    | .done x => pure x
    | .yield x => pure x : Sem (Option Bool × Unit))) >>= fun r => match r.1 with
      | some r => pure r
      | none => pure true) >>= fun r => pure (Value.bool r))
theorem eqTailB_eq (P : Program) (c : Bool) : eqTailB P c = some (.bool c) := by cases c <;> rfl
theorem eqIds0 (b d : Int) : binQ Tryz.prog .eql 43 (.tmp 21) (.tmp 22) (.agg [.lit (.int .i64 0), .lit (.int .i64 b)]) (.agg [.lit (.int .i64 0), .lit (.int .i64 d)]) = (eqTailB Tryz.prog (b == d)).map SV.lit := by kernel_rfl
theorem eqIds {j k : Nat} (h : j ≠ k) : binQ Tryz.prog .eql 43 (.tmp 21) (.tmp 22) (.agg (idC j)) (.agg (idC k)) = some (.lit (.bool false)) := by
  have hb : ((Int.ofNat (j + 1)) == (Int.ofNat (k + 1))) = false := by simp; omega
  have := eqIds0 (Int.ofNat (j + 1)) (Int.ofNat (k + 1))
  rw [hb, eqTailB_eq] at this
  exact this

/-- The document's axis: its two lists. -/
def rC (vi vl : SV) : List SV := [vi, vl]
noncomputable def findLoop : Code := inBlk (seqR (seqL (seqR (bodyOf Tryz.f50))))
noncomputable def findOps : Array Oper := opsOf (seqL (inBlk (seqL (seqR (inLoop findLoop)))))

theorem RowIs.pos {h : Hp} {lo bl n : Nat} {v : SV} (hr : RowIs h lo bl 43 2 v (idsL n)) (hn : 0 < n) : v = .row bl 0 n n bl ∧ bl < h.next ∧ h.objs.get bl = some (.row (idsL n).flatten 43 n bl 2) := by
  rcases hr with ⟨_, r2⟩ | ⟨r1, _, r3, r4⟩
  · have := congrArg List.length r2
    rw [idsL_len] at this
    simp at this
    omega
  · rw [idsL_len] at r1 r4
    exact ⟨r1, r3, r4⟩

set_option maxHeartbeats 8000000 in
set_option maxRecDepth 20000 in
theorem find_region (Γ : Glob) (h : Hp) (A D bi n j k : Nat) (vl : SV) (tm : T SV) (Φ : Out → Prop) (hj : j < n) (hjk : j ≠ k) (hA : h.objs.get A = some (.cells (rC (.row bi 0 n n bi) vl) 83)) (hi : h.objs.get bi = some (.row (idsL n).flatten 43 n bi 2)) (hD : h.objs.get D = some (.cells (idC k) 43))
    (e0 : Fr.ev ⟨tm, 25, []⟩ (.tmp 0) = .ptr A 0) (e3 : Fr.ev ⟨tm, 25, []⟩ (.tmp 3) = .ptr D 0) (e5 : Fr.ev ⟨tm, 25, []⟩ (.tmp 5) = numV j)
    (hΦ : ∀ tm' : T SV, (∀ t, t < 15 → Fr.ev ⟨tm', 25, []⟩ (.tmp t) = Fr.ev ⟨tm, 25, []⟩ (.tmp t)) → Fr.ev ⟨tm', 25, []⟩ (.tmp 23) = .lit (.bool false) → Φ ⟨.normal, ⟨tm', 25, []⟩, h, .lit undef⟩) :
    RunsDrawn Tryz.prog Γ findOps 10 0 [] ⟨tm, 25, []⟩ h Φ := by
  refine drawn_end (m' := 511) (hp' := h) (held' := [⟨descOf 7 findOps.toList 0 0, [.cells D 0 (idC k)], none⟩, ⟨descOf 6 findOps.toList 0 0, [.cells bi (0 + j * 2) (idC j)], none⟩, ⟨descOf 3 findOps.toList 0 0, [.cells A 0 [.row bi 0 n n bi]], none⟩]) (by
    refine take_quiet (v := .ptr A 0) rfl rfl rfl (by simp only [quiet, e0]) rfl ?_
    refine take_quiet (v := .ptr A 0) rfl rfl rfl (by simp only [quiet, ev_set]; rfl) rfl ?_
    refine take_quiet (v := .ptr A 0) rfl rfl rfl (by simp only [quiet, ev_set]; rfl) rfl ?_
    refine take_lean (v := .row bi 0 n n bi) (fs := .cells A 0 [.row bi 0 n n bi]) rfl rfl rfl (by simp only [quiet, ev_set]; exact load_cell rfl hA rfl) rfl ?_
    refine take_quiet (v := numV j) rfl rfl rfl (by simp only [quiet, ev_set, e5]; rfl) rfl ?_
    refine take_quiet (v := .ptr bi (0 + j * 2)) rfl rfl rfl (by simp only [quiet, ev_set]; exact congrArg one (row_index hj)) rfl ?_
    refine take_lean (v := .agg (idC j)) (fs := .cells bi (0 + j * 2) (idC j)) rfl rfl rfl (by simp only [quiet, ev_set]; exact row_load hi hj) rfl ?_
    refine take_lean (v := .agg (idC k)) (fs := .cells D 0 (idC k)) rfl rfl rfl (by simp only [quiet, ev_set, e3]; exact load_all (n := 2) tyAggId tySizeId hD rfl) rfl ?_
    refine take_quiet (v := .lit (.bool false)) rfl rfl rfl (by simp only [quiet, ev_set]; exact congrArg one (eqIds hjk)) rfl ?_
    rfl) rfl rfl ?_
  refine hΦ _ (fun t ht => ?_) (by simp only [ev_set]; rfl)
  have hne : ∀ d : Nat, 15 ≤ d → ¬ t = d := fun d hd e => by
    have ht' : Nat.lt t 15 := ht
    rw [e] at ht'
    exact absurd ht' (Nat.not_lt.2 hd)
  simp only [ev_set, if_neg (hne 15 (by decide)), if_neg (hne 16 (by decide)), if_neg (hne 17 (by decide)), if_neg (hne 18 (by decide)), if_neg (hne 19 (by decide)), if_neg (hne 20 (by decide)), if_neg (hne 21 (by decide)), if_neg (hne 22 (by decide)), if_neg (hne 23 (by decide))]

set_option maxHeartbeats 8000000 in
set_option maxRecDepth 20000 in
theorem find_loop (Γ : Glob) (h : Hp) (A D lo bi k : Nat) (vi vl : SV) (hA : h.objs.get A = some (.cells (rC vi vl) 83)) (hi : RowIs h lo bi 43 2 vi (idsL k)) (hD : h.objs.get D = some (.cells (idC k) 43)) (hk : k ≤ 1000) :
    ∀ (rem j : Nat), j + rem = k → ∀ (tm : T SV), Fr.ev ⟨tm, 25, []⟩ (.tmp 0) = .ptr A 0 → Fr.ev ⟨tm, 25, []⟩ (.tmp 3) = .ptr D 0 → Fr.ev ⟨tm, 25, []⟩ (.tmp 5) = numV j →
      Runs Tryz.prog Γ (.code findLoop none ⟨tm, 25, []⟩ h) fun o => o.exit = .exit 0 ∧ ∃ tm' : T SV, o.fr = ⟨tm', 25, []⟩ ∧ o.hp = h := by
  have hlen : lenQ Tryz.prog h 27 vi = some (numV k, []) := by
    have := RowIs.len (P := Tryz.prog) (h' := h) tyIds hi (nilIds h)
    rw [idsL_len] at this
    exact this
  intro rem
  induction rem with
  | zero =>
    intro j hjr tm e0 e3 e5
    obtain rfl : j = k := by omega
    refine runs_loop ?_
    refine runs_seq (runs_seq (runs_region ?_))
    refine ops_quiet (v := numV j) (fs := []) rfl (by simp only [quiet, e5]) rfl ?_
    refine ops_quiet (v := .ptr A 0) (fs := []) rfl (by simp only [quiet, ev_set, e0]; rfl) rfl ?_
    refine ops_quiet (v := .ptr A 0) (fs := []) rfl (by simp only [quiet, ev_set]; rfl) rfl ?_
    refine ops_quiet (v := .ptr A 0) (fs := []) rfl (by simp only [quiet, ev_set]; rfl) rfl ?_
    refine ops_quiet (v := vi) (fs := [.cells A 0 [vi]]) rfl (by simp only [quiet, ev_set]; exact load_cell rfl hA rfl) rfl ?_
    refine ops_quiet (v := numV j) (fs := []) rfl hlen rfl ?_
    refine ops_quiet (v := .lit (.bool false)) (fs := []) rfl (by
      simp only [quiet, ev_set]
      show one (some (.lit (.bool (decide ((j : Int) < (j : Int)))))) = _
      rw [decide_eq_false (by omega)]
      rfl) rfl ?_
    refine ops_nil ?_
    refine runs_cond false (by simp [ev_set]) (runs_exit ?_)
    exact ⟨rfl, _, rfl, rfl⟩
  | succ rem ihr =>
    intro j hjr tm e0 e3 e5
    have hjk : j < k := by omega
    obtain ⟨hvi, _, hib⟩ := RowIs.pos hi (by omega)
    subst hvi
    refine runs_loop ?_
    refine runs_seq (runs_seq (runs_region ?_))
    refine ops_quiet (v := numV j) (fs := []) rfl (by simp only [quiet, e5]) rfl ?_
    refine ops_quiet (v := .ptr A 0) (fs := []) rfl (by simp only [quiet, ev_set, e0]; rfl) rfl ?_
    refine ops_quiet (v := .ptr A 0) (fs := []) rfl (by simp only [quiet, ev_set]; rfl) rfl ?_
    refine ops_quiet (v := .ptr A 0) (fs := []) rfl (by simp only [quiet, ev_set]; rfl) rfl ?_
    refine ops_quiet (v := .row bi 0 k k bi) (fs := [.cells A 0 [.row bi 0 k k bi]]) rfl (by simp only [quiet, ev_set]; exact load_cell rfl hA rfl) rfl ?_
    refine ops_quiet (v := numV k) (fs := []) rfl hlen rfl ?_
    refine ops_quiet (v := .lit (.bool true)) (fs := []) rfl (by
      simp only [quiet, ev_set]
      show one (some (.lit (.bool (decide ((j : Int) < (k : Int)))))) = _
      rw [decide_eq_true (by omega)]
      rfl) rfl ?_
    refine ops_nil ?_
    refine runs_cond true (by simp [ev_set]) (runs_skip ?_)
    refine runs_seq (runs_block (runs_seq (runs_drawn (ops := findOps) rfl ?_)))
    refine find_region Γ h A D bi k j k vl _ _ hjk (Nat.ne_of_lt hjk) hA hib hD ?_ ?_ ?_ ?_
    · simp only [ev_set]; exact e0
    · simp only [ev_set]; exact e3
    · simp only [ev_set]; exact e5
    intro tm' hev h23
    have f0 : Fr.ev ⟨tm', 25, []⟩ (.tmp 0) = .ptr A 0 := by rw [hev 0 (by decide)]; simp only [ev_set]; exact e0
    have f3 : Fr.ev ⟨tm', 25, []⟩ (.tmp 3) = .ptr D 0 := by rw [hev 3 (by decide)]; simp only [ev_set]; exact e3
    have f5 : Fr.ev ⟨tm', 25, []⟩ (.tmp 5) = numV j := by rw [hev 5 (by decide)]; simp only [ev_set]; exact e5
    refine runs_cond false h23 (runs_skip ?_)
    rw [show ∀ fr hp v, atEnd 1 ⟨.normal, fr, hp, v⟩ = ⟨.normal, fr, hp, v⟩ from fun _ _ _ => rfl]
    refine runs_region ?_
    refine ops_quiet (v := numV j) (fs := []) rfl (by simp only [quiet, f5]) rfl ?_
    refine ops_quiet (v := numV (j + 1)) (fs := []) rfl (by
      simp only [quiet, ev_set]
      show one (some (.lit (.int .i64 (IntKind.i64.wrap ((j : Int) + 1))))) = _
      rw [wrap_succ (by omega)]
      rfl) rfl ?_
    refine ops_quiet (v := numV (j + 1)) (fs := []) rfl rfl rfl ?_
    refine ops_nil ?_
    refine ihr (j + 1) (by omega) _ ?_ ?_ ?_
    · simp only [ev_set]; exact f0
    · simp only [ev_set]; exact f3
    · simp only [ev_set]; rfl

set_option maxHeartbeats 8000000 in
set_option maxRecDepth 20000 in
/-- An id that is not there is not found. -/
theorem find_runs (Γ : Glob) (h : Hp) (A lo bi k : Nat) (vi vl : SV) (hA : h.objs.get A = some (.cells (rC vi vl) 83)) (hAn : A < h.next) (hi : RowIs h lo bi 43 2 vi (idsL k)) (hk : k ≤ 1000) :
    Runs Tryz.prog Γ (.call 50 [.ptr A 0, .agg (idC k)] h) fun r => r.v = .lit (.int .i64 (-1)) ∧ r.hp = ⟨h.objs.set h.next (.cells (idC k) 43), h.next + 1⟩ := by
  have hA1 : (h.objs.set h.next (.cells (idC k) 43)).get A = some (.cells (rC vi vl) 83) := (get_ne (Nat.ne_of_lt hAn)).trans hA
  have hi1 : RowIs ⟨h.objs.set h.next (.cells (idC k) 43), h.next + 1⟩ lo bi 43 2 vi (idsL k) := hi.kept (Nat.le_succ _) fun hb _ => get_ne (Nat.ne_of_lt hb)
  refine runs_call Tryz.func50 rfl ?_
  refine runs_seq (runs_region ?_)
  refine ops_effect (v := .ptr h.next 0) (hp' := ⟨h.objs.set h.next (.cells (idC k) 43), h.next + 1⟩) rfl rfl rfl rfl (Nat.le_succ _) rfl ?_
  refine ops_quiet rfl rfl rfl ?_
  refine ops_nil ?_
  refine runs_seq (runs_seq (runs_region ?_))
  refine ops_quiet rfl rfl rfl ?_
  refine ops_nil ?_
  refine runs_block ?_
  refine (find_loop Γ ⟨h.objs.set h.next (.cells (idC k) 43), h.next + 1⟩ A h.next lo bi k vi vl hA1 hi1 get_same hk k 0 (by omega) _ rfl rfl rfl).mono ?_
  rintro ⟨ex, fr, hp, v⟩ ⟨he, tm', hfr, hhp⟩
  have he : ex = .exit 0 := he
  have hfr : fr = ⟨tm', 25, []⟩ := hfr
  have hhp : hp = ⟨h.objs.set h.next (.cells (idC k) 43), h.next + 1⟩ := hhp
  subst he hfr hhp
  refine runs_seq (runs_region ?_)
  refine ops_quiet rfl rfl rfl ?_
  refine ops_nil ?_
  refine runs_ret ?_
  exact ⟨_, rfl, rfl, rfl⟩
end Go.Proofs.YtpfagdkpolhopaaGreatDoor.sheetNew
namespace Go.Proofs.YtpfagdkpolhopaaGreatDoor.sheetNew
open Go Go.Proofs.YtpfagdkpolhopaaGreatDoor.Ev

noncomputable def refLoop : Code := inBlk (seqR (seqL (seqR (seqR (bodyOf Tryz.f22)))))
noncomputable def refBlk : Code := inBlk (seqL (seqR (inLoop refLoop)))
noncomputable def refThen : Code := thenOf (seqR refBlk)
noncomputable def refOps : Array Oper := opsOf (seqL refThen)
noncomputable def refEnd : Code := seqR refThen
noncomputable def refNext : Code := seqR (seqR (inLoop refLoop))

theorem rsplice0 {vi vl v' : SV} (h : SV.one v' = true) : splice (rC vi vl) 0 [v'] = some (rC v' vl) := by
  simp only [splice, List.all_cons, List.all_nil, h, Bool.and_self]; rfl
theorem rsplice1 {vi vl v' : SV} (h : SV.one v' = true) : splice (rC vi vl) 1 [v'] = some (rC vi v') := by
  simp only [splice, List.all_cons, List.all_nil, h, Bool.and_self]; rfl

set_option maxHeartbeats 8000000 in
set_option maxRecDepth 20000 in
theorem ref_append (Γ : Glob) (A bin n lo bi k : Nat) (vi vl : SV) (tm : T SV) (h : Hp) (Φ : Out → Prop) (hk : k ≤ 1000) (hkn : k < n)
    (e0 : Fr.ev ⟨tm, 59, []⟩ (.tmp 0) = .row bin 0 n n bin) (e3 : Fr.ev ⟨tm, 59, []⟩ (.tmp 3) = .ptr A 0) (e4 : Fr.ev ⟨tm, 59, []⟩ (.tmp 4) = numV k)
    (hA : h.objs.get A = some (.cells (rC vi vl) 83)) (hin : h.objs.get bin = some (.row (idsL n).flatten 43 n bin 2)) (hAl : A < lo) (hbi : lo ≤ bi) (hlo : lo ≤ h.next)
    (hrow : RowIs h lo bi 43 2 vi (idsL k))
    (hΦ : ∀ (tm' : T SV) (h' : Hp) (vi' : SV), (∀ t, t < 36 → Fr.ev ⟨tm', 59, []⟩ (.tmp t) = Fr.ev ⟨tm, 59, []⟩ (.tmp t)) → h'.objs.get A = some (.cells (rC vi' vl) 83) → (∀ b, b < h.next → b ≠ A → (vi = .lit (.slice none 0 0) ∨ b ≠ bi) → h'.objs.get b = h.objs.get b) → h'.next = h.next + 2 →
      RowIs h' lo (h.next + 1) 43 2 vi' (idsL (k + 1)) → Φ ⟨.normal, ⟨tm', 59, []⟩, h', .lit undef⟩) :
    RunsDrawn Tryz.prog Γ refOps 15 0 [] ⟨tm, 59, []⟩ h Φ := by
  obtain ⟨hLone, hLsame⟩ := hrow.same
  have hnb : (h.objs.set h.next (.cells (idC k) 43)).get h.next = some (.cells (idC k) 43) := get_same
  have hrow2 : RowIs ⟨h.objs.set h.next (.cells (idC k) 43), h.next + 1⟩ lo bi 43 2 vi (idsL k) := hrow.kept (Nat.le_succ _) fun hb _ => get_ne (by omega)
  obtain ⟨v', h3, happ, hrow3, hn3, hget3⟩ := append_id (Γ := Γ) hrow2 (by omega) (Nat.le_succ_of_le hlo) hnb
  have hn3 : h3.next = h.next + 2 := hn3
  have hget : ∀ b, b < h.next → (vi = .lit (.slice none 0 0) ∨ b ≠ bi) → h3.objs.get b = h.objs.get b := fun b hb hne => by
    rw [hget3 b (by show b < h.next + 1; omega) hne]
    exact get_ne (by omega)
  have hA2 : (h.objs.set h.next (.cells (idC k) 43)).get A = some (.cells (rC vi vl) 83) := (get_ne (by omega)).trans hA
  have hA3 : h3.objs.get A = some (.cells (rC vi vl) 83) := (hget A (by omega) (.inr (by omega))).trans hA
  have hvone : SV.one v' = true := hrow3.same.1
  have hle : h.next + 1 ≤ h3.next := by omega
  have d89 : Nat.testBit (descOf 8 refOps.toList 0 0) 9 = true := rfl
  have d49 : Nat.testBit (descOf 4 refOps.toList 0 0) 9 = false := rfl
  have d4a : Nat.testBit (descOf 4 refOps.toList 0 0) 10 = true := rfl
  refine drawn_effect (i := 9) (v := .slice h.next 0 1 1) (h2 := ⟨h.objs.set h.next (.cells (idC k) 43), h.next + 1⟩) (m' := 511)
    (held' := [⟨descOf 8 refOps.toList 0 0, [.cells bin (0 + k * 2) (idC k)], none⟩, ⟨descOf 4 refOps.toList 0 0, [.cells A 0 [vi]], none⟩])
    (fr' := ⟨((((((((tm.set 36 (.ptr A 0)).set 37 (.ptr A 0)).set 38 (.ptr A 0)).set 39 (.ptr A 0)).set 40 vi).set 41 (.row bin 0 n n bin)).set 42 (numV k)).set 43 (.ptr bin (0 + k * 2))).set 44 (.agg (idC k)), 59, []⟩) (hp' := h) (by
    refine take_quiet (v := .ptr A 0) rfl rfl rfl (by simp only [quiet, e3]) rfl ?_
    refine take_quiet (v := .ptr A 0) rfl rfl rfl (by simp only [quiet, ev_set, e3]; rfl) rfl ?_
    refine take_quiet (v := .ptr A 0) rfl rfl rfl (by simp only [quiet, ev_set]; rfl) rfl ?_
    refine take_quiet (v := .ptr A 0) rfl rfl rfl (by simp only [quiet, ev_set]; rfl) rfl ?_
    refine take_lean (v := vi) (fs := .cells A 0 [vi]) rfl rfl rfl (by simp only [quiet, ev_set]; exact load_cell rfl hA rfl) rfl ?_
    refine take_quiet (v := .row bin 0 n n bin) rfl rfl rfl (by simp only [quiet, ev_set, e0]; rfl) rfl ?_
    refine take_quiet (v := numV k) rfl rfl rfl (by simp only [quiet, ev_set, e4]; rfl) rfl ?_
    refine take_quiet (v := .ptr bin (0 + k * 2)) rfl rfl rfl (by simp only [quiet, ev_set]; exact congrArg one (row_index hkn)) rfl ?_
    refine take_lean (v := .agg (idC k)) (fs := .cells bin (0 + k * 2) (idC k)) rfl rfl rfl (by simp only [quiet, ev_set]; exact row_load hin hkn) rfl ?_
    refine take_loud rfl rfl rfl rfl rfl ?_
    refine take_wait rfl rfl ?_
    refine take_wait rfl rfl ?_
    refine take_wait rfl rfl ?_
    refine take_wait rfl rfl ?_
    rfl) rfl rfl rfl rfl (Nat.le_succ _) rfl rfl ?_ ?_
  · simp only [factsStand, d89, d49, cond_true, cond_false, List.all_cons, List.all_nil, fact_one (h := ⟨h.objs.set h.next (.cells (idC k) 43), h.next + 1⟩) (k := 0) (v := vi) hA2 rfl hLsame, Bool.or_true, Bool.and_true]
  rw [show drop 9 [⟨descOf 8 refOps.toList 0 0, [.cells bin (0 + k * 2) (idC k)], none⟩, ⟨descOf 4 refOps.toList 0 0, [.cells A 0 [vi]], none⟩] = [⟨descOf 4 refOps.toList 0 0, [.cells A 0 [vi]], none⟩] from by simp only [drop, d89, d49, cond_true, cond_false]]
  refine drawn_effect (i := 10) (v := v') (h2 := h3) (m' := 1023) (held' := [⟨descOf 4 refOps.toList 0 0, [.cells A 0 [vi]], none⟩]) (by
    refine take_done rfl ?_
    refine take_done rfl ?_
    refine take_done rfl ?_
    refine take_done rfl ?_
    refine take_done rfl ?_
    refine take_done rfl ?_
    refine take_done rfl ?_
    refine take_done rfl ?_
    refine take_done rfl ?_
    refine take_done rfl ?_
    refine take_loud rfl rfl rfl rfl rfl ?_
    refine take_wait rfl rfl ?_
    refine take_wait rfl rfl ?_
    refine take_wait rfl rfl ?_
    rfl) rfl rfl rfl (by simp only [effect, ev_set]; exact congrArg val happ) hle rfl rfl ?_ ?_
  · simp only [factsStand, d4a, cond_true, Bool.and_true]
  rw [show drop 10 [⟨descOf 4 refOps.toList 0 0, [.cells A 0 [vi]], none⟩] = [] from by simp only [drop, d4a, cond_true]]
  refine drawn_end (m' := 16383) (held' := [⟨descOf 13 refOps.toList 0 0, [], some (A, .cells (rC v' vl) 83)⟩]) (hp' := ⟨h3.objs.set A (.cells (rC v' vl) 83), h3.next⟩) (by
    refine take_done rfl ?_
    refine take_done rfl ?_
    refine take_done rfl ?_
    refine take_done rfl ?_
    refine take_done rfl ?_
    refine take_done rfl ?_
    refine take_done rfl ?_
    refine take_done rfl ?_
    refine take_done rfl ?_
    refine take_done rfl ?_
    refine take_done rfl ?_
    refine take_quiet (v := .ptr A 0) rfl rfl rfl (by simp only [quiet, ev_set]; rfl) rfl ?_
    refine take_quiet (v := .ptr A 0) rfl rfl rfl (by simp only [quiet, ev_set]; rfl) rfl ?_
    refine take_local (v := .lit undef) (b := A) (nx := h3.next) (ob := .cells (rC v' vl) 83) rfl rfl rfl rfl (by
      refine local_store (n := 1) (v := v') (l := rC vi vl) rfl (by simp only [ev_set]; rfl) (by simp only [ev_set]; rfl) (by rw [cells_one hvone]; rfl) hA3 (by rw [cells_one hvone]; exact rsplice0 hvone)) rfl rfl ?_
    rfl) rfl rfl ?_
  refine hΦ _ _ v' (fun t ht => ?_) get_same (fun b hb hne hbi => (get_ne hne).trans (hget b hb hbi)) hn3 (hrow3.kept (Nat.le_refl _) fun _ hb => get_ne (by omega))
  have hne : ∀ d : Nat, 36 ≤ d → ¬ t = d := fun d hd e => by
    have ht' : Nat.lt t 36 := ht
    rw [e] at ht'
    exact absurd ht' (Nat.not_lt.2 hd)
  simp only [ev_set, if_neg (hne 36 (by decide)), if_neg (hne 37 (by decide)), if_neg (hne 38 (by decide)), if_neg (hne 39 (by decide)), if_neg (hne 40 (by decide)), if_neg (hne 41 (by decide)), if_neg (hne 42 (by decide)), if_neg (hne 43 (by decide)), if_neg (hne 44 (by decide)), if_neg (hne 45 (by decide)), if_neg (hne 46 (by decide)), if_neg (hne 47 (by decide)), if_neg (hne 48 (by decide))]

set_option maxHeartbeats 8000000 in
set_option maxRecDepth 20000 in
theorem ref_second (Γ : Glob) (A lo n bin k bl bi : Nat) (vi vl : SV) (tm : T SV) (h : Hp) (hn : n ≤ 1000) (hkn : k < n) (hA0 : A < lo) (hbin : bin < lo) (hbA : bin ≠ A) (e3 : Fr.ev ⟨tm, 59, []⟩ (.tmp 3) = .ptr A 0) (e0 : Fr.ev ⟨tm, 59, []⟩ (.tmp 0) = .row bin 0 n n bin) (e4 : Fr.ev ⟨tm, 59, []⟩ (.tmp 4) = numV k)
    (hA : h.objs.get A = some (.cells (rC vi vl) 83)) (hin : h.objs.get bin = some (.row (idsL n).flatten 43 n bin 2))
    (hi : RowIs h lo bi 43 2 vi (idsL (k + 1))) (hl : RowIs h lo bl 4 1 vl (trues k)) (hbl : lo ≤ bl) (hlo : lo ≤ h.next) (hne : vl = .lit (.slice none 0 0) ∨ bi ≠ bl) (Φ : Out → Prop)
    (hΦ : ∀ (tm' : T SV) (h' : Hp) (vl' : SV), Fr.ev ⟨tm', 59, []⟩ (.tmp 3) = .ptr A 0 → Fr.ev ⟨tm', 59, []⟩ (.tmp 0) = .row bin 0 n n bin → Fr.ev ⟨tm', 59, []⟩ (.tmp 4) = numV (k + 1) →
      h'.objs.get A = some (.cells (rC vi vl') 83) → h'.objs.get bin = some (.row (idsL n).flatten 43 n bin 2) →
      RowIs h' lo bi 43 2 vi (idsL (k + 1)) → RowIs h' lo (h.next + 1) 4 1 vl' (trues (k + 1)) → h'.next = h.next + 2 → (∀ b, b < lo → b ≠ A → h'.objs.get b = h.objs.get b) → Runs Tryz.prog Γ (.code refLoop none ⟨tm', 59, []⟩ h') Φ) :
    Runs Tryz.prog Γ (.code refEnd none ⟨tm, 59, []⟩ h) fun o => Then (fun f p => Runs Tryz.prog Γ (.code refNext none f p) (Then (fun f p => Runs Tryz.prog Γ (.code refLoop none f p) Φ) Φ)) (Then (fun f p => Runs Tryz.prog Γ (.code refLoop none f p) Φ) Φ) (atEnd 1 o) := by
  have hnb : (h.objs.set h.next (.cells [.lit (.bool true)] 4)).get h.next = some (.cells [.lit (.bool true)] 4) := get_same
  have hl2 : RowIs ⟨h.objs.set h.next (.cells [.lit (.bool true)] 4), h.next + 1⟩ lo bl 4 1 vl (trues k) := hl.kept (Nat.le_succ _) fun hb _ => get_ne (by omega)
  obtain ⟨v', h3, happ, hl3, hn3, hget3⟩ := append_true (Γ := Γ) hl2 (by omega) (Nat.le_succ_of_le hlo) hnb
  have hn3 : h3.next = h.next + 2 := hn3
  have hget : ∀ b, b < h.next → (vl = .lit (.slice none 0 0) ∨ b ≠ bl) → h3.objs.get b = h.objs.get b := fun b hb hne => by
    rw [hget3 b (by show b < h.next + 1; omega) hne]
    exact get_ne (by omega)
  have hA3 : h3.objs.get A = some (.cells (rC vi vl) 83) := (hget A (by omega) (.inr (by omega))).trans hA
  have hvone : SV.one v' = true := hl3.same.1
  have hle : h.next + 1 ≤ h3.next := by omega
  have hin3 := (hget bin (by omega) (.inr (by omega))).trans hin
  have hi3 : RowIs h3 lo bi 43 2 vi (idsL (k + 1)) := hi.kept (by omega) fun hb _ => hget bi hb hne
  have hAi : ∀ b, lo ≤ b → b ≠ A := fun b hb => by omega
  have hlow : ∀ b, b < lo → b < h.next ∧ b ≠ bl := fun b hb => by omega
  have hk1 : k ≤ 1000000 := by omega
  refine runs_region ?_
  refine ops_quiet (v := .ptr A 0) (fs := []) rfl (by simp only [quiet, e3]) rfl ?_
  refine ops_quiet (v := .ptr A 0) (fs := []) rfl (by simp only [quiet, ev_set, e3]; rfl) rfl ?_
  refine ops_quiet (v := .ptr A 0) (fs := []) rfl (by simp only [quiet, ev_set]; rfl) rfl ?_
  refine ops_quiet (v := .ptr A 1) (fs := []) rfl (by simp only [quiet, ev_set]; rfl) rfl ?_
  refine ops_quiet (v := vl) (fs := [.cells A 1 [vl]]) rfl (by simp only [quiet, ev_set]; exact load_cell rfl hA rfl) rfl ?_
  refine ops_effect (v := .slice h.next 0 1 1) (hp' := ⟨h.objs.set h.next (.cells [.lit (.bool true)] 4), h.next + 1⟩) rfl rfl rfl rfl (Nat.le_succ _) rfl ?_
  refine ops_effect (v := v') (hp' := h3) rfl rfl rfl (by simp only [effect, ev_set]; exact congrArg val happ) hle rfl ?_
  refine ops_quiet (v := .ptr A 0) (fs := []) rfl (by simp only [quiet, ev_set]; rfl) rfl ?_
  refine ops_quiet (v := .ptr A 1) (fs := []) rfl (by simp only [quiet, ev_set]; rfl) rfl ?_
  refine ops_effect (v := .lit undef) (hp' := ⟨h3.objs.set A (.cells (rC vi v') 83), h3.next⟩) rfl rfl rfl (store_eff (n := 1) (v := v') (l := rC vi vl) rfl (by simp only [ev_set]; rfl) (by simp only [ev_set]; rfl) (by rw [cells_one hvone]; rfl) hA3 (by rw [cells_one hvone]; exact rsplice1 hvone)) (Nat.le_refl _) rfl ?_
  refine ops_nil ?_
  rw [show ∀ fr hp v, atEnd 1 ⟨.normal, fr, hp, v⟩ = ⟨.normal, fr, hp, v⟩ from fun _ _ _ => rfl]
  refine runs_region ?_
  refine ops_quiet (v := numV k) (fs := []) rfl (by simp only [quiet, ev_set, e4]; rfl) rfl ?_
  refine ops_quiet (v := numV (k + 1)) (fs := []) rfl (by
    simp only [quiet, ev_set]
    show one (some (.lit (.int .i64 (IntKind.i64.wrap ((k : Int) + 1))))) = _
    rw [wrap_succ hk1]
    rfl) rfl ?_
  refine ops_quiet (v := numV (k + 1)) (fs := []) rfl rfl rfl ?_
  refine ops_nil ?_
  refine hΦ _ _ v' ?_ ?_ ?_ get_same ((get_ne hbA).trans hin3) (hi3.kept (Nat.le_refl _) fun _ hb => get_ne (hAi _ hb)) (hl3.kept (Nat.le_refl _) fun _ hb => get_ne (hAi _ hb)) hn3 fun b hb hne => (get_ne hne).trans (hget b (hlow b hb).1 (.inr (hlow b hb).2))
  · simp only [ev_set]; exact e3
  · simp only [ev_set]; exact e0
  · simp only [ev_set]; rfl
end Go.Proofs.YtpfagdkpolhopaaGreatDoor.sheetNew
namespace Go.Proofs.YtpfagdkpolhopaaGreatDoor.sheetNew
open Go Go.Proofs.YtpfagdkpolhopaaGreatDoor.Ev

theorem ne_zero (k : Nat) : binQ Tryz.prog .neq 43 (.tmp 16) (.tmp 17) (.agg (idC k)) (.agg zid) = some (.lit (.bool true)) := by kernel_rfl

set_option maxHeartbeats 8000000 in
set_option maxRecDepth 20000 in
theorem ref_loop (Γ : Glob) (A lo n bin : Nat) (vin : SV) (hn : n ≤ 1000) (hvin : 0 < n → vin = .row bin 0 n n bin) (hA0 : A < lo) (hbin : 0 < n → bin < A) (hlen : ∀ h, lenQ Tryz.prog h 27 vin = some (numV n, [])) :
    ∀ (rem k : Nat), k + rem = n → ∀ (tm : T SV) (h : Hp) (vi vl : SV) (bi bl : Nat), Fr.ev ⟨tm, 59, []⟩ (.tmp 3) = .ptr A 0 → Fr.ev ⟨tm, 59, []⟩ (.tmp 0) = vin → Fr.ev ⟨tm, 59, []⟩ (.tmp 4) = numV k →
      h.objs.get A = some (.cells (rC vi vl) 83) → (0 < n → h.objs.get bin = some (.row (idsL n).flatten 43 n bin 2)) →
      RowIs h lo bi 43 2 vi (idsL k) → RowIs h lo bl 4 1 vl (trues k) → lo ≤ bi → lo ≤ bl → bi ≠ bl → lo ≤ h.next →
      Runs Tryz.prog Γ (.code refLoop none ⟨tm, 59, []⟩ h) fun o => o.exit = .exit 0 ∧ ∃ (tm' : T SV) (vi' vl' : SV) (bi' bl' : Nat), o.fr = ⟨tm', 59, []⟩ ∧ Fr.ev ⟨tm', 59, []⟩ (.tmp 3) = .ptr A 0 ∧ o.hp.objs.get A = some (.cells (rC vi' vl') 83) ∧
        RowIs o.hp lo bi' 43 2 vi' (idsL n) ∧ RowIs o.hp lo bl' 4 1 vl' (trues n) ∧ lo ≤ bi' ∧ lo ≤ bl' ∧ Kept A h o.hp := by
  intro rem
  induction rem with
  | zero =>
    intro k hkr tm h vi vl bi bl e3 e0 e4 hA hin hi hl hbi hbl hne hlo
    obtain rfl : k = n := by omega
    refine runs_loop ?_
    refine runs_seq (runs_seq (runs_region ?_))
    refine ops_quiet (v := numV k) (fs := []) rfl (by simp only [quiet, e4]) rfl ?_
    refine ops_quiet (v := vin) (fs := []) rfl (by simp only [quiet, ev_set, e0]; rfl) rfl ?_
    refine ops_quiet (v := numV k) (fs := []) rfl (hlen h) rfl ?_
    refine ops_quiet (v := .lit (.bool false)) (fs := []) rfl (by
      simp only [quiet, ev_set]
      show one (some (.lit (.bool (decide ((k : Int) < k))))) = _
      rw [decide_eq_false (by omega)]
      rfl) rfl ?_
    refine ops_nil ?_
    refine runs_cond false (by simp [ev_set]) (runs_exit ?_)
    refine ⟨rfl, _, vi, vl, bi, bl, rfl, ?_, hA, hi, hl, hbi, hbl, Kept.refl _ _⟩
    simp only [ev_set, e3]
    rfl
  | succ rem ihr =>
    intro k hkr tm h vi vl bi bl e3 e0 e4 hA hin hi hl hbi hbl hne hlo
    have hkn : k < n := by omega
    have hin := hin (by omega)
    have hbin := hbin (by omega)
    obtain rfl := hvin (by omega)
    have hAn : A < h.next := by omega
    have hk : k ≤ 1000 := by omega
    obtain ⟨h1, hh1⟩ : ∃ h1 : Hp, h1 = ⟨h.objs.set h.next (.cells (idC k) 43), h.next + 1⟩ := ⟨_, rfl⟩
    have hn1 : h1.next = h.next + 1 := by rw [hh1]
    have hk1 : ∀ b, b < h.next → h1.objs.get b = h.objs.get b := fun b hb => by rw [hh1]; exact get_ne (Nat.ne_of_lt hb)
    have hA1 := (hk1 A hAn).trans hA
    have hin1 := (hk1 bin (by omega)).trans hin
    have hi1 : RowIs h1 lo bi 43 2 vi (idsL k) := hi.kept (by omega) fun hb _ => hk1 _ hb
    have hl1 : RowIs h1 lo bl 4 1 vl (trues k) := hl.kept (by omega) fun hb _ => hk1 _ hb
    have hfind := find_runs Γ h A lo bi k vi vl hA hAn hi hk
    rw [← hh1] at hfind
    have hilen : lenQ Tryz.prog h1 27 vi = some (numV k, []) := by
      have := RowIs.len (P := Tryz.prog) (h' := h1) tyIds hi (nilIds h1)
      rw [idsL_len] at this
      exact this
    have hlo1 : lo ≤ h1.next := by omega
    have hblo : bin < lo := by omega
    have hbA : bin ≠ A := by omega
    have hne3 : vl = .lit (.slice none 0 0) ∨ h1.next + 1 ≠ bl := by
      rcases hl1 with ⟨r, _⟩ | ⟨_, _, r, _⟩
      · exact .inl r
      · exact .inr (by omega)
    have hnbl : bl ≠ A ∧ bin ≠ bi ∧ bl ≠ bi := ⟨by omega, by omega, fun e => hne e.symm⟩
    have hlow : ∀ b, b < A → b < h1.next ∧ b ≠ A ∧ b ≠ bi ∧ b < lo ∧ b < h.next := fun b hb => by omega
    have hlt1 : bin < h1.next := by omega
    refine runs_loop ?_
    refine runs_seq (runs_seq (runs_region ?_))
    refine ops_quiet (v := numV k) (fs := []) rfl (by simp only [quiet, e4]) rfl ?_
    refine ops_quiet (v := .row bin 0 n n bin) (fs := []) rfl (by simp only [quiet, ev_set, e0]; rfl) rfl ?_
    refine ops_quiet (v := numV n) (fs := []) rfl (hlen h) rfl ?_
    refine ops_quiet (v := .lit (.bool true)) (fs := []) rfl (by
      simp only [quiet, ev_set]
      show one (some (.lit (.bool (decide ((k : Int) < n))))) = _
      rw [decide_eq_true (by omega)]
      rfl) rfl ?_
    refine ops_nil ?_
    refine runs_cond true (by simp [ev_set]) (runs_skip ?_)
    refine runs_seq (runs_block (runs_seq (runs_region ?_)))
    refine ops_quiet (v := .row bin 0 n n bin) (fs := []) rfl (by simp only [quiet, ev_set, e0]; rfl) rfl ?_
    refine ops_quiet (v := numV k) (fs := []) rfl (by simp only [quiet, ev_set, e4]; rfl) rfl ?_
    refine ops_quiet (v := .ptr bin (0 + k * 2)) (fs := []) rfl (by simp only [quiet, ev_set]; exact congrArg one (row_index hkn)) rfl ?_
    refine ops_quiet (v := .agg (idC k)) (fs := [.cells bin (0 + k * 2) (idC k)]) rfl (by simp only [quiet, ev_set]; exact row_load hin hkn) rfl ?_
    refine ops_quiet (v := .agg zid) (fs := []) rfl rfl rfl ?_
    refine ops_quiet (v := .lit (.bool true)) (fs := []) rfl (by simp only [quiet, ev_set]; exact congrArg one (ne_zero k)) rfl ?_
    refine ops_quiet (v := .lit (.bool true)) (fs := []) rfl (by simp only [quiet, ev_set]; rfl) rfl ?_
    refine ops_quiet (v := .ptr A 0) (fs := []) rfl (by simp only [quiet, ev_set, e3]; rfl) rfl ?_
    refine ops_quiet (v := .row bin 0 n n bin) (fs := []) rfl (by simp only [quiet, ev_set, e0]; rfl) rfl ?_
    refine ops_quiet (v := numV k) (fs := []) rfl (by simp only [quiet, ev_set, e4]; rfl) rfl ?_
    refine ops_quiet (v := .ptr bin (0 + k * 2)) (fs := []) rfl (by simp only [quiet, ev_set]; exact congrArg one (row_index hkn)) rfl ?_
    refine ops_quiet (v := .agg (idC k)) (fs := [.cells bin (0 + k * 2) (idC k)]) rfl (by simp only [quiet, ev_set]; exact row_load hin hkn) rfl ?_
    refine ops_call (f := 50) (args := [.ptr A 0, .agg (idC k)]) rfl rfl (by simp [calleeOf, ev_set]; rfl) rfl ?_
    refine hfind.mono ?_
    rintro ⟨ex, fr, hp, v⟩ ⟨hv, hhp⟩
    have hv : v = .lit (.int .i64 (-1)) := hv
    have hhp' : h1 = hp := Eq.symm hhp
    clear hhp
    subst hv hhp'
    refine ⟨_, rfl, ?_⟩
    refine ops_quiet (v := .lit (.bool true)) (fs := []) rfl (by simp only [quiet, ev_set]; rfl) rfl ?_
    refine ops_quiet (v := .lit (.bool true)) (fs := []) rfl (by simp only [quiet, ev_set]; rfl) rfl ?_
    refine ops_quiet (v := .lit (.bool true)) (fs := []) rfl (by simp only [quiet, ev_set]; rfl) rfl ?_
    refine ops_quiet (v := .ptr A 0) (fs := []) rfl (by simp only [quiet, ev_set, e3]; rfl) rfl ?_
    refine ops_quiet (v := .ptr A 0) (fs := []) rfl (by simp only [quiet, ev_set]; rfl) rfl ?_
    refine ops_quiet (v := .ptr A 0) (fs := []) rfl (by simp only [quiet, ev_set]; rfl) rfl ?_
    refine ops_quiet (v := vi) (fs := [.cells A 0 [vi]]) rfl (by simp only [quiet, ev_set]; exact load_cell rfl hA1 rfl) rfl ?_
    refine ops_quiet (v := numV k) (fs := []) rfl hilen rfl ?_
    refine ops_quiet (v := .lit (.bool true)) (fs := []) rfl (by
      simp only [quiet, ev_set]
      show one (some (.lit (.bool (decide ((k : Int) < 1000))))) = _
      rw [decide_eq_true (by omega)]
      rfl) rfl ?_
    refine ops_quiet (v := .lit (.bool true)) (fs := []) rfl (by simp only [quiet, ev_set]; rfl) rfl ?_
    refine ops_nil ?_
    refine runs_cond true (by simp [ev_set]) ?_
    refine runs_seq (runs_drawn (ops := refOps) rfl ?_)
    refine ref_append Γ A bin n lo bi k vi vl _ h1 _ hk hkn ?_ ?_ ?_ hA1 hin1 hA0 hbi hlo1 hi1 ?_
    · simp only [ev_set]; exact e0
    · simp only [ev_set]; exact e3
    · simp only [ev_set]; exact e4
    intro tm3 h3 vi' hev hA3 hk3 hn3 hi3
    have hn3 : h3.next = h1.next + 2 := hn3
    have f3 : Fr.ev ⟨tm3, 59, []⟩ (.tmp 3) = .ptr A 0 := by rw [hev 3 (by decide)]; simp only [ev_set]; exact e3
    have f0 : Fr.ev ⟨tm3, 59, []⟩ (.tmp 0) = .row bin 0 n n bin := by rw [hev 0 (by decide)]; simp only [ev_set]; exact e0
    have f4 : Fr.ev ⟨tm3, 59, []⟩ (.tmp 4) = numV k := by rw [hev 4 (by decide)]; simp only [ev_set]; exact e4
    have hl3 : RowIs h3 lo bl 4 1 vl (trues k) := hl1.kept (by omega) fun hb _ => hk3 bl hb hnbl.1 (.inr hnbl.2.2)
    have hin3 := (hk3 bin hlt1 hbA (.inr hnbl.2.1)).trans hin1
    refine ref_second Γ A lo n bin k bl (h1.next + 1) vi' vl tm3 h3 hn hkn hA0 hblo hbA f3 f0 f4 hA3 hin3 hi3 hl3 hbl (by omega) hne3 _ ?_
    intro tm4 h4 vl' g3 g0 g4 hA4 hin4 hi4 hl4 hn4 hk4
    have hn4 : h4.next = h3.next + 2 := hn4
    refine (ihr (k + 1) (by omega) tm4 h4 vi' vl' (h1.next + 1) (h3.next + 1) g3 g0 g4 hA4 (fun _ => hin4) hi4 hl4 (by omega) (by omega) (by omega) (by omega)).mono ?_
    rintro o ⟨q1, tm', vi2, vl2, bi2, bl2, q2, q3, q4, q5, q6, q7, q8, q9⟩
    exact ⟨q1, tm', vi2, vl2, bi2, bl2, q2, q3, q4, q5, q6, q7, q8, Kept.trans ⟨by omega, fun b hb => (hk4 b (hlow b hb).2.2.2.1 (hlow b hb).2.1).trans ((hk3 b (hlow b hb).1 (hlow b hb).2.1 (.inr (hlow b hb).2.2.1)).trans (hk1 b (hlow b hb).2.2.2.2))⟩ q9⟩

/-- The document's axis of the first n ids, all live. -/
def RefAx (h : Hp) (A n : Nat) : Prop := A < h.next ∧ ∃ vi vl lo bi bl, A < lo ∧ h.objs.get A = some (.cells (rC vi vl) 83) ∧ RowIs h lo bi 43 2 vi (idsL n) ∧ RowIs h lo bl 4 1 vl (trues n)
theorem RefAx.kept {h h' : Hp} {A n : Nat} (ha : RefAx h A n) (hn : h.next ≤ h'.next) (hg : ∀ b, A ≤ b → b < h.next → h'.objs.get b = h.objs.get b) : RefAx h' A n := by
  obtain ⟨a1, vi, vl, lo, bi, bl, a2, a3, a4, a5⟩ := ha
  exact ⟨by omega, vi, vl, lo, bi, bl, a2, (hg A (Nat.le_refl _) a1).trans a3, a4.kept hn fun hb hl => hg bi (by omega) hb, a5.kept hn fun hb hl => hg bl (by omega) hb⟩

set_option maxHeartbeats 8000000 in
set_option maxRecDepth 20000 in
theorem refNew_runs (Γ : Glob) (h : Hp) (vin : SV) (lo bin n : Nat) (hn : n ≤ 1000) (hrow : RowIs h lo bin 43 2 vin (idsL n)) :
    Runs Tryz.prog Γ (.call 22 [vin] h) fun r => r.v = .ptr h.next 0 ∧ RefAx r.hp h.next n ∧ Kept h.next h r.hp := by
  have hlen : ∀ h', lenQ Tryz.prog h' 27 vin = some (numV n, []) := fun h' => by
    have := RowIs.len (P := Tryz.prog) tyIds hrow (nilIds h')
    rw [idsL_len] at this
    exact this
  refine runs_call Tryz.func22 rfl ?_
  refine runs_seq (runs_region ?_)
  refine ops_quiet rfl rfl rfl ?_
  refine ops_nil ?_
  refine runs_seq (runs_region ?_)
  refine ops_quiet (v := .agg (rC (.lit (.slice none 0 0)) (.lit (.slice none 0 0)))) (fs := []) rfl rfl rfl ?_
  refine ops_effect (v := .ptr h.next 0) (hp' := ⟨h.objs.set h.next (.cells (rC (.lit (.slice none 0 0)) (.lit (.slice none 0 0))) 83), h.next + 1⟩) rfl rfl rfl rfl (Nat.le_succ _) rfl ?_
  refine ops_quiet rfl rfl rfl ?_
  refine ops_nil ?_
  refine runs_seq (runs_seq (runs_region ?_))
  refine ops_quiet rfl rfl rfl ?_
  refine ops_nil ?_
  refine runs_block ?_
  refine (ref_loop Γ h.next (h.next + 1) n bin vin hn (fun hp => (RowIs.pos hrow hp).1) (Nat.lt_succ_self _) (fun hp => (RowIs.pos hrow hp).2.1) hlen n 0 (by omega) _ ⟨_, h.next + 1⟩ (.lit (.slice none 0 0)) (.lit (.slice none 0 0)) (h.next + 1) (h.next + 2) rfl rfl rfl get_same ?_ (.inl ⟨rfl, rfl⟩) (.inl ⟨rfl, rfl⟩) (Nat.le_refl _) (by omega) (by omega) (Nat.le_refl _)).mono ?_
  · exact fun hp => (get_ne (Nat.ne_of_lt (RowIs.pos hrow hp).2.1)).trans (RowIs.pos hrow hp).2.2
  · rintro ⟨ex, fr, hp, v⟩ ⟨he, tm', vi', vl', bi', bl', hfr, f3, hA, hi, hl, hbi, hbl, hkept⟩
    have he : ex = .exit 0 := he
    have hfr : fr = ⟨tm', 59, []⟩ := hfr
    subst he hfr
    have hkn : h.next + 1 ≤ hp.next := hkept.next
    have hlt : h.next < hp.next := hkn
    have hold : ∀ b, b < h.next → hp.objs.get b = h.objs.get b := fun b hb => (hkept.old b hb).trans (get_ne (Nat.ne_of_lt hb))
    rw [show atEnd 0 ⟨.exit 0, ⟨tm', 59, []⟩, hp, v⟩ = ⟨.normal, ⟨tm', 59, []⟩, hp, v⟩ from rfl]
    refine runs_seq (runs_region ?_)
    refine ops_quiet (v := .ptr h.next 0) (fs := []) rfl (by simp only [quiet, f3]) rfl ?_
    refine ops_quiet rfl rfl rfl ?_
    refine ops_nil ?_
    refine runs_ret ?_
    refine ⟨_, rfl, ?_, ⟨hlt, vi', vl', h.next + 1, bi', bl', Nat.lt_succ_self _, hA, hi, hl⟩, ⟨Nat.le_of_lt hlt, hold⟩⟩
    simp only [ev_set]
    rfl
end Go.Proofs.YtpfagdkpolhopaaGreatDoor.sheetNew
