/-
  THE LAW MineTwice, whole; printed by the author's gen_two.py, in the calculus of runs.
-/
import Derived.Test.YtogagnopkkiniaaGreatDoorGoGN
namespace Go.Proofs.YtogagnopkkiniaaGreatDoor.gone
open Go Go.Proofs.YtogagnopkkiniaaGreatDoor.Ev Go.Proofs.YtogagnopkkiniaaGreatDoor.snap

theorem addW {x y : Operand} {a b : Int} : binQ Tryz.prog .add 3 x y (.lit (.int .i64 a)) (.lit (.int .i64 b)) = some (.lit (.int .i64 (IntKind.i64.wrap (a + b)))) := rfl
theorem subW {x y : Operand} {a b : Int} : binQ Tryz.prog .sub 3 x y (.lit (.int .i64 a)) (.lit (.int .i64 b)) = some (.lit (.int .i64 (IntKind.i64.wrap (a - b)))) := rfl
theorem wrap_ne (q : Int) : IntKind.i64.wrap (q + 1) ≠ q := by
  have h64 : (2 : Int) ^ 64 = 18446744073709551616 := by decide
  have h63 : (2 : Int) ^ (64 - 1) = 9223372036854775808 := by decide
  simp only [IntKind.wrap, IntKind.signed, IntKind.bits, h64, h63]
  intro h
  split at h <;> omega
theorem GL.cell {Γ : Glob} {L : SV} {ds : List D} (hl : GL Γ L ds) : L.cells = [L] ∧ SV.sameL [L] [L] = true := by
  rcases hl with ⟨p, c, rfl, _⟩ | ⟨g, off, cap, rfl, _⟩
  · refine ⟨rfl, ?_⟩
    cases p with
    | none => simp [SV.sameL, SV.same, litSame]
    | some a => simp [SV.sameL, SV.same, litSame]
  · refine ⟨rfl, ?_⟩
    simp [SV.sameL, SV.same, litSame]
set_option maxHeartbeats 8000000 in
set_option maxRecDepth 20000 in
/-- **The law tells true.** -/
theorem two_runs (Γ : Glob) (h : Hp) (L : SV) (ds : List D) (q m : Int) (hL : GL Γ L ds) : Runs Tryz.prog Γ (.call 3 [L, .agg (idC q m)] h) fun r => r.v = .lit (.bool true) := by
  have hlen := (hL.lst 0 h).1
  obtain ⟨hcell, hsame⟩ := hL.cell
  by_cases h16 : 16 < ds.length
  · skip
    refine runs_call Tryz.func3 rfl ?_
    refine runs_seq ?_
    refine runs_region ?_
    refine ops_box (cs := [L]) rfl rfl hcell rfl rfl (fun H1 g1 k1 n1 => ?_)
    refine ops_box (cs := [.lit (.int .i64 q), .lit (.int .i64 m)]) rfl rfl rfl rfl rfl (fun H2 g2 k2 n2 => ?_)
    have g1_2 := g1.kept k2
    refine ops_q (v := .lit (.bool false)) (fs := []) rfl rfl rfl rfl ?_
    refine ops_nil ?_
    refine runs_seq ?_
    refine runs_seq ?_
    refine runs_region ?_
    refine ops_c (f := 4) (args := []) rfl rfl rfl (clone_body Tryz.func4 rfl) rfl rfl (told_awake fun fr => ?_)
    refine ops_q (v := .lit (.bool false)) (fs := []) rfl rfl rfl rfl ?_
    refine ops_q (v := .lit (.bool false)) (fs := []) rfl rfl rfl rfl ?_
    refine ops_q (v := L) (fs := [.cells h.next 0 [L]]) rfl (by simp only [quiet, ev_set]; exact load_cell rfl g1_2.get rfl) rfl rfl ?_
    refine ops_q (v := .lit (.int .i64 (Int.ofNat ds.length))) (fs := []) rfl (hlen _) rfl rfl ?_
    refine ops_q (v := .lit (.bool true)) (fs := []) rfl (by simp only [quiet, ev_set]; exact congrArg one (gtrT (a := Int.ofNat ds.length) (b := 16) (by simp only [Int.ofNat_eq_natCast]; omega))) rfl rfl ?_
    refine ops_q (v := .lit (.bool true)) (fs := []) rfl rfl rfl rfl ?_
    refine ops_nil ?_
    refine runs_cond true rfl ?_
    refine runs_seq ?_
    refine runs_region ?_
    refine ops_c (f := 4) (args := []) rfl rfl rfl (clone_body Tryz.func4 rfl) rfl rfl (told_awake fun fr => ?_)
    refine ops_q (v := .lit (.bool true)) (fs := []) rfl rfl rfl rfl ?_
    refine ops_nil ?_
    refine runs_ret ?_
    exact ⟨_, rfl, rfl⟩
  refine runs_call Tryz.func3 rfl ?_
  refine runs_seq ?_
  refine runs_region ?_
  refine ops_box (cs := [L]) rfl rfl hcell rfl rfl (fun H1 g1 k1 n1 => ?_)
  refine ops_box (cs := [.lit (.int .i64 q), .lit (.int .i64 m)]) rfl rfl rfl rfl rfl (fun H2 g2 k2 n2 => ?_)
  have g1_2 := g1.kept k2
  refine ops_q (v := .lit (.bool false)) (fs := []) rfl rfl rfl rfl ?_
  refine ops_nil ?_
  refine runs_seq ?_
  refine runs_seq ?_
  refine runs_region ?_
  refine ops_c (f := 4) (args := []) rfl rfl rfl (clone_body Tryz.func4 rfl) rfl rfl (told_awake fun fr => ?_)
  refine ops_q (v := .lit (.bool false)) (fs := []) rfl rfl rfl rfl ?_
  refine ops_q (v := .lit (.bool false)) (fs := []) rfl rfl rfl rfl ?_
  refine ops_q (v := L) (fs := [.cells h.next 0 [L]]) rfl (by simp only [quiet, ev_set]; exact load_cell rfl g1_2.get rfl) rfl rfl ?_
  refine ops_q (v := .lit (.int .i64 (Int.ofNat ds.length))) (fs := []) rfl (hlen _) rfl rfl ?_
  refine ops_q (v := .lit (.bool false)) (fs := []) rfl (by simp only [quiet, ev_set]; exact congrArg one (gtrF (a := Int.ofNat ds.length) (b := 16) (by simp only [Int.ofNat_eq_natCast]; omega))) rfl rfl ?_
  refine ops_q (v := .lit (.bool false)) (fs := []) rfl rfl rfl rfl ?_
  refine ops_nil ?_
  refine runs_cond false rfl ?_
  refine runs_skip ?_
  refine runs_seq ?_
  refine runs_region ?_
  refine ops_q (v := .ptr H1.next 1) (fs := []) rfl rfl rfl rfl ?_
  refine ops_q (v := .lit (.int .i64 m)) (fs := [.cells H1.next 1 [.lit (.int .i64 m)]]) rfl (by simp only [quiet, ev_set]; exact load_cell rfl g2.get rfl) rfl rfl ?_
  refine ops_q (v := .lit (.int .i64 (max m 1))) (fs := []) rfl (max2_quiet rfl rfl) rfl rfl ?_
  refine ops_q (v := .lit (.int .i64 (max m 1))) (fs := []) rfl rfl rfl rfl ?_
  refine ops_nil ?_
  refine runs_seq (runs_seq ?_)
  refine runs_region ?_
  refine ops_q (v := .lit (.int .i64 (Int.ofNat 0))) (fs := []) rfl rfl rfl rfl ?_
  refine ops_nil ?_
  refine runs_block ((t_loop Γ h.next L ds (by omega) hL H2 g1_2 ds.length 0 (Nat.zero_add _) _ (max m 1) rfl rfl rfl).mono ?_)
  rintro o ⟨tm', v0, rfl, e2, e3, e5⟩
  rw [List.drop_zero] at e5
  have e3 : Fr.ev ⟨tm', 124, []⟩ (.tmp 3) = .ptr H1.next 0 := e3.trans rfl
  rw [show ∀ fr hp v, atEnd 0 ⟨.exit 0, fr, hp, v⟩ = ⟨.normal, fr, hp, v⟩ from fun _ _ _ => rfl]
  obtain ⟨t1, t2⟩ := topN_ge ds (max m 1)
  have b2 := g1_2
  have b3 := g2
  generalize hN : topN (max m 1) ds = N at e5 t1 t2
  have hm : m ≤ N := by omega
  have hN1 : 1 ≤ N := by omega
  have hn : ∀ d ∈ ds, d.n ≤ N := fun d hd => (t2 d hd).1
  have ht : ∀ d ∈ ds, d.tn ≤ N := fun d hd => (t2 d hd).2
  have hot : isT q ⟨IntKind.i64.wrap (q + 1), N + 3, 7, q, m⟩ = false := by simp [isT, wrap_ne q]
  by_cases hbig : 1152921504606846976 < N
  · skip
    refine runs_seq ?_
    refine runs_seq ?_
    refine runs_region ?_
    refine ops_q (v := .lit (.int .i64 N)) (fs := []) rfl (by simp only [quiet, e5] <;> rfl) rfl rfl ?_
    refine ops_q (v := .lit (.bool true)) (fs := []) rfl (by simp only [quiet, ev_set]; exact congrArg one (gtrT hbig)) rfl rfl ?_
    refine ops_nil ?_
    refine runs_cond true rfl ?_
    refine runs_seq ?_
    refine runs_region ?_
    refine ops_q (v := .lit (.bool true)) (fs := []) rfl rfl rfl rfl ?_
    refine ops_nil ?_
    refine runs_ret ?_
    exact ⟨_, rfl, by simp only [ev_set] <;> rfl⟩
  by_cases hlow : m < -1152921504606846976
  · skip
    refine runs_seq ?_
    refine runs_seq ?_
    refine runs_region ?_
    refine ops_q (v := .lit (.int .i64 N)) (fs := []) rfl (by simp only [quiet, e5] <;> rfl) rfl rfl ?_
    refine ops_q (v := .lit (.bool false)) (fs := []) rfl (by simp only [quiet, ev_set]; exact congrArg one (gtrF hbig)) rfl rfl ?_
    refine ops_nil ?_
    refine runs_cond false rfl ?_
    refine runs_skip ?_
    refine runs_seq ?_
    refine runs_region ?_
    refine ops_q (v := L) (fs := [.cells h.next 0 [L]]) rfl (by simp only [quiet, ev_set, e2]; exact load_cell rfl b2.get rfl) rfl rfl ?_
    refine ops_q (v := .agg [.lit (.int .i64 q), .lit (.int .i64 m)]) (fs := [.cells H1.next 0 [.lit (.int .i64 q), .lit (.int .i64 m)]]) rfl (by simp only [quiet, ev_set, e3]; exact load_cut rfl rfl b3.get rfl) rfl rfl ?_
    refine ops_c (f := 5) (args := [L, .agg [.lit (.int .i64 q), .lit (.int .i64 m)]]) rfl rfl rfl (clone_body Tryz.func5 rfl) rfl rfl ?_
    refine (gone_runs Γ H2.next H2 L ds q m (by omega) (hL.lst _ _) (Nat.le_refl _)).mono ?_
    rintro ⟨ex11, fr11, H11, v11⟩ ⟨hv11, k11⟩
    have hv11 : v11 = .lit (.bool (G ds q m)) := hv11
    subst hv11
    have k11 : Kept H2.next H2 H11 := k11
    have b2_11 := b2.kept k11
    have b3_11 := b3.kept k11
    refine ops_q (v := .lit (.bool (G ds q m))) (fs := []) rfl rfl rfl rfl ?_
    refine ops_nil ?_
    refine runs_seq ?_
    refine runs_region ?_
    refine ops_q (v := .ptr H1.next 0) (fs := []) rfl (by simp only [quiet, ev_set, e3] <;> rfl) rfl rfl ?_
    refine ops_q (v := .lit (.int .i64 q)) (fs := [.cells H1.next 0 [.lit (.int .i64 q)]]) rfl (by simp only [quiet, ev_set]; exact load_cell rfl b3_11.get rfl) rfl rfl ?_
    refine ops_q (v := .lit (.int .i64 N)) (fs := []) rfl (by simp only [quiet, ev_set, e5] <;> rfl) rfl rfl ?_
    refine ops_q (v := .lit (.int .i64 (N + 1))) (fs := []) rfl (by simp only [quiet, ev_set]; exact congrArg one (addQ (c := N + 1) rfl (by omega) (by omega))) rfl rfl ?_
    refine ops_q (v := .agg [.lit (.int .i64 q), .lit (.int .i64 (N + 1))]) (fs := []) rfl rfl rfl rfl ?_
    refine ops_q (v := .agg [.lit (.int .i64 q), .lit (.int .i64 m)]) (fs := [.cells H1.next 0 [.lit (.int .i64 q), .lit (.int .i64 m)]]) rfl (by simp only [quiet, ev_set, e3]; exact load_cut rfl rfl b3_11.get rfl) rfl rfl ?_
    refine ops_q (v := .agg (newC ⟨q, N + 1, 7, q, m⟩)) (fs := []) rfl (by simp only [quiet] <;> rfl) rfl rfl ?_
    refine ops_newA (cs := newC ⟨q, N + 1, 7, q, m⟩) rfl rfl rfl rfl rfl rfl rfl rfl (by simp only [ev_set] <;> rfl) rfl rfl (newC_len _) (newC_one _) (fun H12 g12 k12 n12 => ?_)
    have b2_12 := b2_11.kept k12
    have b3_12 := b3_11.kept k12
    refine ops_nil ?_
    refine runs_seq ?_
    refine runs_region ?_
    refine ops_q (v := .ptr H1.next 0) (fs := []) rfl (by simp only [quiet, ev_set, e3] <;> rfl) rfl rfl ?_
    refine ops_q (v := .lit (.int .i64 q)) (fs := [.cells H1.next 0 [.lit (.int .i64 q)]]) rfl (by simp only [quiet, ev_set]; exact load_cell rfl b3_12.get rfl) rfl rfl ?_
    refine ops_q (v := .lit (.int .i64 N)) (fs := []) rfl (by simp only [quiet, ev_set, e5] <;> rfl) rfl rfl ?_
    refine ops_q (v := .lit (.int .i64 (N + 2))) (fs := []) rfl (by simp only [quiet, ev_set]; exact congrArg one (addQ (c := N + 2) rfl (by omega) (by omega))) rfl rfl ?_
    refine ops_q (v := .agg [.lit (.int .i64 q), .lit (.int .i64 (N + 2))]) (fs := []) rfl rfl rfl rfl ?_
    refine ops_q (v := .ptr H11.next 0) (fs := []) rfl rfl rfl rfl ?_
    refine ops_q (v := .agg [.lit (.int .i64 q), .lit (.int .i64 (N + 1))]) (fs := [.cells H11.next 0 [.lit (.int .i64 q), .lit (.int .i64 (N + 1))]]) rfl (by simp only [quiet, ev_set]; exact load_cut rfl rfl g12.get rfl) rfl rfl ?_
    refine ops_q (v := .agg (newC ⟨q, N + 2, 7, q, N + 1⟩)) (fs := []) rfl (by simp only [quiet] <;> rfl) rfl rfl ?_
    refine ops_newA (cs := newC ⟨q, N + 2, 7, q, N + 1⟩) rfl rfl rfl rfl rfl rfl rfl rfl (by simp only [ev_set] <;> rfl) rfl rfl (newC_len _) (newC_one _) (fun H13 g13 k13 n13 => ?_)
    have b2_13 := b2_12.kept k13
    have b3_13 := b3_12.kept k13
    have g12_13 := g12.kept k13
    refine ops_nil ?_
    refine runs_seq ?_
    refine runs_region ?_
    refine ops_q (v := .ptr H1.next 0) (fs := []) rfl (by simp only [quiet, ev_set, e3] <;> rfl) rfl rfl ?_
    refine ops_q (v := .lit (.int .i64 q)) (fs := [.cells H1.next 0 [.lit (.int .i64 q)]]) rfl (by simp only [quiet, ev_set]; exact load_cell rfl b3_13.get rfl) rfl rfl ?_
    refine ops_q (v := .lit (.int .i64 (IntKind.i64.wrap (q + 1)))) (fs := []) rfl (by simp only [quiet, ev_set]; exact congrArg one addW) rfl rfl ?_
    refine ops_q (v := .lit (.int .i64 N)) (fs := []) rfl (by simp only [quiet, ev_set, e5] <;> rfl) rfl rfl ?_
    refine ops_q (v := .lit (.int .i64 (N + 3))) (fs := []) rfl (by simp only [quiet, ev_set]; exact congrArg one (addQ (c := N + 3) rfl (by omega) (by omega))) rfl rfl ?_
    refine ops_q (v := .agg [.lit (.int .i64 (IntKind.i64.wrap (q + 1))), .lit (.int .i64 (N + 3))]) (fs := []) rfl rfl rfl rfl ?_
    refine ops_q (v := .agg [.lit (.int .i64 q), .lit (.int .i64 m)]) (fs := [.cells H1.next 0 [.lit (.int .i64 q), .lit (.int .i64 m)]]) rfl (by simp only [quiet, ev_set, e3]; exact load_cut rfl rfl b3_13.get rfl) rfl rfl ?_
    refine ops_q (v := .agg (newC ⟨IntKind.i64.wrap (q + 1), N + 3, 7, q, m⟩)) (fs := []) rfl (by simp only [quiet] <;> rfl) rfl rfl ?_
    refine ops_newA (cs := newC ⟨IntKind.i64.wrap (q + 1), N + 3, 7, q, m⟩) rfl rfl rfl rfl rfl rfl rfl rfl (by simp only [ev_set] <;> rfl) rfl rfl (newC_len _) (newC_one _) (fun H14 g14 k14 n14 => ?_)
    have b2_14 := b2_13.kept k14
    have b3_14 := b3_13.kept k14
    have g12_14 := g12_13.kept k14
    have g13_14 := g13.kept k14
    refine ops_nil ?_
    refine runs_seq ?_
    refine runs_region ?_
    refine ops_q (v := .ptr H1.next 0) (fs := []) rfl (by simp only [quiet, ev_set, e3] <;> rfl) rfl rfl ?_
    refine ops_q (v := .lit (.int .i64 q)) (fs := [.cells H1.next 0 [.lit (.int .i64 q)]]) rfl (by simp only [quiet, ev_set]; exact load_cell rfl b3_14.get rfl) rfl rfl ?_
    refine ops_q (v := .ptr H1.next 1) (fs := []) rfl (by simp only [quiet, ev_set, e3] <;> rfl) rfl rfl ?_
    refine ops_q (v := .lit (.int .i64 m)) (fs := [.cells H1.next 1 [.lit (.int .i64 m)]]) rfl (by simp only [quiet, ev_set]; exact load_cell rfl b3_14.get rfl) rfl rfl ?_
    refine ops_q (v := .lit (.int .i64 (IntKind.i64.wrap (m - 1)))) (fs := []) rfl (by simp only [quiet, ev_set]; exact congrArg one subW) rfl rfl ?_
    refine ops_q (v := .agg [.lit (.int .i64 q), .lit (.int .i64 (IntKind.i64.wrap (m - 1)))]) (fs := []) rfl rfl rfl rfl ?_
    refine ops_q (v := .agg [.lit (.int .i64 q), .lit (.int .i64 m)]) (fs := [.cells H1.next 0 [.lit (.int .i64 q), .lit (.int .i64 m)]]) rfl (by simp only [quiet, ev_set, e3]; exact load_cut rfl rfl b3_14.get rfl) rfl rfl ?_
    refine ops_q (v := .agg (newC ⟨q, IntKind.i64.wrap (m - 1), 7, q, m⟩)) (fs := []) rfl (by simp only [quiet] <;> rfl) rfl rfl ?_
    refine ops_newA (cs := newC ⟨q, IntKind.i64.wrap (m - 1), 7, q, m⟩) rfl rfl rfl rfl rfl rfl rfl rfl (by simp only [ev_set] <;> rfl) rfl rfl (newC_len _) (newC_one _) (fun H15 g15 k15 n15 => ?_)
    have b2_15 := b2_14.kept k15
    have b3_15 := b3_14.kept k15
    have g12_15 := g12_14.kept k15
    have g13_15 := g13_14.kept k15
    have g14_15 := g14.kept k15
    refine ops_nil ?_
    refine runs_seq ?_
    refine runs_region ?_
    refine ops_q (v := .func (.func 6) [] [.ptr h.next 0, .ptr H1.next 0]) (fs := []) rfl (by simp only [quiet, List.map_cons, List.map_nil, ev_set, e2, e3] <;> rfl) rfl rfl ?_
    refine ops_q (v := .func (.func 6) [] [.ptr h.next 0, .ptr H1.next 0]) (fs := []) rfl rfl rfl rfl ?_
    refine ops_nil ?_
    refine runs_seq ?_
    refine runs_region ?_
    refine ops_q (v := .func (.func 6) [] [.ptr h.next 0, .ptr H1.next 0]) (fs := []) rfl rfl rfl rfl ?_
    refine ops_q (v := .agg (newC ⟨q, N + 1, 7, q, m⟩)) (fs := [.cells H11.next 0 (newC ⟨q, N + 1, 7, q, m⟩)]) rfl (by simp only [quiet, ev_set]; exact load_cut rfl rfl g12_15.get rfl) rfl rfl ?_
    refine ops_bsl (k := 1) (cs := ([(⟨q, N + 1, 7, q, m⟩ : D)].map newC).flatten) rfl rfl (by simp only <;> rfl) rfl rfl (fun H16 g16 k16 n16 => ?_)
    have b2_16 := b2_15.kept k16
    have b3_16 := b3_15.kept k16
    have g12_16 := g12_15.kept k16
    have g13_16 := g13_15.kept k16
    have g14_16 := g14_15.kept k16
    have g15_16 := g15.kept k16
    refine ops_c (f := 6) (args := [.slice H15.next 0 1 1, .ptr h.next 0, .ptr H1.next 0]) rfl rfl (by simp only [calleeOf, ev_set] <;> rfl) (clone_body Tryz.func6 rfl) rfl rfl ?_
    refine (with_runs Γ H16 h.next H1.next H15.next L ds [(⟨q, N + 1, 7, q, m⟩ : D)] q m (Nat.succ_pos _) (by omega) (by simp only [List.length_cons, List.length_nil]; decide) hL hsame b2_16 b3_16 g16).mono ?_
    rintro ⟨ex17, fr17, H17, v17⟩ ⟨hv17, k17⟩
    have hv17 : v17 = .lit (.bool (true)) := (hv17.trans (by rw [taken ht hm]))
    subst hv17
    have k17 : Kept H16.next H16 H17 := k17
    have b2_17 := b2_16.kept k17
    have b3_17 := b3_16.kept k17
    have g12_17 := g12_16.kept k17
    have g13_17 := g13_16.kept k17
    have g14_17 := g14_16.kept k17
    have g15_17 := g15_16.kept k17
    have g16_17 := g16.kept k17
    refine ops_q (v := .lit (.bool true)) (fs := []) rfl rfl rfl rfl ?_
    refine ops_q (v := .func (.func 6) [] [.ptr h.next 0, .ptr H1.next 0]) (fs := []) rfl rfl rfl rfl ?_
    refine ops_q (v := .agg (newC ⟨q, N + 1, 7, q, m⟩)) (fs := [.cells H11.next 0 (newC ⟨q, N + 1, 7, q, m⟩)]) rfl (by simp only [quiet, ev_set]; exact load_cut rfl rfl g12_17.get rfl) rfl rfl ?_
    refine ops_q (v := .agg (newC ⟨q, N + 2, 7, q, N + 1⟩)) (fs := [.cells H12.next 0 (newC ⟨q, N + 2, 7, q, N + 1⟩)]) rfl (by simp only [quiet, ev_set]; exact load_cut rfl rfl g13_17.get rfl) rfl rfl ?_
    refine ops_bsl (k := 2) (cs := ([(⟨q, N + 1, 7, q, m⟩ : D), (⟨q, N + 2, 7, q, N + 1⟩ : D)].map newC).flatten) rfl rfl (by simp only <;> rfl) rfl rfl (fun H18 g18 k18 n18 => ?_)
    have b2_18 := b2_17.kept k18
    have b3_18 := b3_17.kept k18
    have g12_18 := g12_17.kept k18
    have g13_18 := g13_17.kept k18
    have g14_18 := g14_17.kept k18
    have g15_18 := g15_17.kept k18
    have g16_18 := g16_17.kept k18
    refine ops_c (f := 6) (args := [.slice H17.next 0 2 2, .ptr h.next 0, .ptr H1.next 0]) rfl rfl (by simp only [calleeOf, ev_set] <;> rfl) (clone_body Tryz.func6 rfl) rfl rfl ?_
    refine (with_runs Γ H18 h.next H1.next H17.next L ds [(⟨q, N + 1, 7, q, m⟩ : D), (⟨q, N + 2, 7, q, N + 1⟩ : D)] q m (Nat.succ_pos _) (by omega) (by simp only [List.length_cons, List.length_nil]; decide) hL hsame b2_18 b3_18 g18).mono ?_
    rintro ⟨ex19, fr19, H19, v19⟩ ⟨hv19, k19⟩
    have hv19 : v19 = .lit (.bool (G ds q m)) := (hv19.trans (by rw [again hn ht hm]))
    subst hv19
    have k19 : Kept H18.next H18 H19 := k19
    have b2_19 := b2_18.kept k19
    have b3_19 := b3_18.kept k19
    have g12_19 := g12_18.kept k19
    have g13_19 := g13_18.kept k19
    have g14_19 := g14_18.kept k19
    have g15_19 := g15_18.kept k19
    have g16_19 := g16_18.kept k19
    have g18_19 := g18.kept k19
    refine ops_q (v := .lit (.bool (G ds q m))) (fs := []) rfl rfl rfl rfl ?_
    refine ops_q (v := .lit (.bool true)) (fs := []) rfl (by simp only [quiet, ev_set]; exact congrArg one (boolEq _ _ _)) rfl rfl ?_
    refine ops_q (v := .lit (.bool true)) (fs := []) rfl rfl rfl rfl ?_
    refine ops_q (v := .lit (.bool true)) (fs := []) rfl rfl rfl rfl ?_
    refine ops_q (v := .func (.func 6) [] [.ptr h.next 0, .ptr H1.next 0]) (fs := []) rfl rfl rfl rfl ?_
    refine ops_q (v := .agg (newC ⟨q, N + 2, 7, q, N + 1⟩)) (fs := [.cells H12.next 0 (newC ⟨q, N + 2, 7, q, N + 1⟩)]) rfl (by simp only [quiet, ev_set]; exact load_cut rfl rfl g13_19.get rfl) rfl rfl ?_
    refine ops_q (v := .agg (newC ⟨q, N + 1, 7, q, m⟩)) (fs := [.cells H11.next 0 (newC ⟨q, N + 1, 7, q, m⟩)]) rfl (by simp only [quiet, ev_set]; exact load_cut rfl rfl g12_19.get rfl) rfl rfl ?_
    refine ops_bsl (k := 2) (cs := ([(⟨q, N + 2, 7, q, N + 1⟩ : D), (⟨q, N + 1, 7, q, m⟩ : D)].map newC).flatten) rfl rfl (by simp only <;> rfl) rfl rfl (fun H20 g20 k20 n20 => ?_)
    have b2_20 := b2_19.kept k20
    have b3_20 := b3_19.kept k20
    have g12_20 := g12_19.kept k20
    have g13_20 := g13_19.kept k20
    have g14_20 := g14_19.kept k20
    have g15_20 := g15_19.kept k20
    have g16_20 := g16_19.kept k20
    have g18_20 := g18_19.kept k20
    refine ops_c (f := 6) (args := [.slice H19.next 0 2 2, .ptr h.next 0, .ptr H1.next 0]) rfl rfl (by simp only [calleeOf, ev_set] <;> rfl) (clone_body Tryz.func6 rfl) rfl rfl ?_
    refine (with_runs Γ H20 h.next H1.next H19.next L ds [(⟨q, N + 2, 7, q, N + 1⟩ : D), (⟨q, N + 1, 7, q, m⟩ : D)] q m (Nat.succ_pos _) (by omega) (by simp only [List.length_cons, List.length_nil]; decide) hL hsame b2_20 b3_20 g20).mono ?_
    rintro ⟨ex21, fr21, H21, v21⟩ ⟨hv21, k21⟩
    have hv21 : v21 = .lit (.bool (G ds q m)) := (hv21.trans (by rw [again' hn ht hm]))
    subst hv21
    have k21 : Kept H20.next H20 H21 := k21
    have b2_21 := b2_20.kept k21
    have b3_21 := b3_20.kept k21
    have g12_21 := g12_20.kept k21
    have g13_21 := g13_20.kept k21
    have g14_21 := g14_20.kept k21
    have g15_21 := g15_20.kept k21
    have g16_21 := g16_20.kept k21
    have g18_21 := g18_20.kept k21
    have g20_21 := g20.kept k21
    refine ops_q (v := .lit (.bool (G ds q m))) (fs := []) rfl rfl rfl rfl ?_
    refine ops_q (v := .lit (.bool true)) (fs := []) rfl (by simp only [quiet, ev_set]; exact congrArg one (boolEq _ _ _)) rfl rfl ?_
    refine ops_q (v := .lit (.bool true)) (fs := []) rfl rfl rfl rfl ?_
    refine ops_q (v := .lit (.bool true)) (fs := []) rfl rfl rfl rfl ?_
    refine ops_q (v := .func (.func 6) [] [.ptr h.next 0, .ptr H1.next 0]) (fs := []) rfl rfl rfl rfl ?_
    refine ops_q (v := .agg (newC ⟨IntKind.i64.wrap (q + 1), N + 3, 7, q, m⟩)) (fs := [.cells H13.next 0 (newC ⟨IntKind.i64.wrap (q + 1), N + 3, 7, q, m⟩)]) rfl (by simp only [quiet, ev_set]; exact load_cut rfl rfl g14_21.get rfl) rfl rfl ?_
    refine ops_bsl (k := 1) (cs := ([(⟨IntKind.i64.wrap (q + 1), N + 3, 7, q, m⟩ : D)].map newC).flatten) rfl rfl (by simp only <;> rfl) rfl rfl (fun H22 g22 k22 n22 => ?_)
    have b2_22 := b2_21.kept k22
    have b3_22 := b3_21.kept k22
    have g12_22 := g12_21.kept k22
    have g13_22 := g13_21.kept k22
    have g14_22 := g14_21.kept k22
    have g15_22 := g15_21.kept k22
    have g16_22 := g16_21.kept k22
    have g18_22 := g18_21.kept k22
    have g20_22 := g20_21.kept k22
    refine ops_c (f := 6) (args := [.slice H21.next 0 1 1, .ptr h.next 0, .ptr H1.next 0]) rfl rfl (by simp only [calleeOf, ev_set] <;> rfl) (clone_body Tryz.func6 rfl) rfl rfl ?_
    refine (with_runs Γ H22 h.next H1.next H21.next L ds [(⟨IntKind.i64.wrap (q + 1), N + 3, 7, q, m⟩ : D)] q m (Nat.succ_pos _) (by omega) (by simp only [List.length_cons, List.length_nil]; decide) hL hsame b2_22 b3_22 g22).mono ?_
    rintro ⟨ex23, fr23, H23, v23⟩ ⟨hv23, k23⟩
    have hv23 : v23 = .lit (.bool (G ds q m)) := (hv23.trans (by rw [beside hot m]))
    subst hv23
    have k23 : Kept H22.next H22 H23 := k23
    have b2_23 := b2_22.kept k23
    have b3_23 := b3_22.kept k23
    have g12_23 := g12_22.kept k23
    have g13_23 := g13_22.kept k23
    have g14_23 := g14_22.kept k23
    have g15_23 := g15_22.kept k23
    have g16_23 := g16_22.kept k23
    have g18_23 := g18_22.kept k23
    have g20_23 := g20_22.kept k23
    have g22_23 := g22.kept k23
    refine ops_q (v := .lit (.bool (G ds q m))) (fs := []) rfl rfl rfl rfl ?_
    refine ops_q (v := .lit (.bool true)) (fs := []) rfl (by simp only [quiet, ev_set]; exact congrArg one (boolEq _ _ _)) rfl rfl ?_
    refine ops_q (v := .lit (.bool true)) (fs := []) rfl rfl rfl rfl ?_
    refine ops_q (v := .lit (.bool true)) (fs := []) rfl rfl rfl rfl ?_
    refine ops_q (v := .ptr H1.next 1) (fs := []) rfl (by simp only [quiet, ev_set, e3] <;> rfl) rfl rfl ?_
    refine ops_q (v := .lit (.int .i64 m)) (fs := [.cells H1.next 1 [.lit (.int .i64 m)]]) rfl (by simp only [quiet, ev_set]; exact load_cell rfl b3_23.get rfl) rfl rfl ?_
    refine ops_q (v := .lit (.bool true)) (fs := []) rfl (by simp only [quiet, ev_set]; exact congrArg one (lssT hlow)) rfl rfl ?_
    refine ops_q (v := .lit (.bool true)) (fs := []) rfl rfl rfl rfl ?_
    refine ops_u rfl rfl rfl ?_
    refine ops_u rfl rfl rfl ?_
    refine ops_u rfl rfl rfl ?_
    refine ops_u rfl rfl rfl ?_
    refine ops_u rfl rfl rfl ?_
    refine ops_u rfl rfl rfl ?_
    refine ops_q (v := .lit (.bool true)) (fs := []) rfl rfl rfl rfl ?_
    refine ops_q (v := .lit (.bool true)) (fs := []) rfl rfl rfl rfl ?_
    refine ops_q (v := .lit (.bool true)) (fs := []) rfl rfl rfl rfl ?_
    refine ops_nil ?_
    refine runs_ret ?_
    exact ⟨_, rfl, rfl⟩
  have hea : isT q ⟨q, IntKind.i64.wrap (m - 1), 7, q, m⟩ = false := by
    rw [wrap_in (by omega) (by omega)]
    simp only [isT, Bool.and_eq_false_iff, decide_eq_false_iff_not]
    omega
  refine runs_seq ?_
  refine runs_seq ?_
  refine runs_region ?_
  refine ops_q (v := .lit (.int .i64 N)) (fs := []) rfl (by simp only [quiet, e5] <;> rfl) rfl rfl ?_
  refine ops_q (v := .lit (.bool false)) (fs := []) rfl (by simp only [quiet, ev_set]; exact congrArg one (gtrF hbig)) rfl rfl ?_
  refine ops_nil ?_
  refine runs_cond false rfl ?_
  refine runs_skip ?_
  refine runs_seq ?_
  refine runs_region ?_
  refine ops_q (v := L) (fs := [.cells h.next 0 [L]]) rfl (by simp only [quiet, ev_set, e2]; exact load_cell rfl b2.get rfl) rfl rfl ?_
  refine ops_q (v := .agg [.lit (.int .i64 q), .lit (.int .i64 m)]) (fs := [.cells H1.next 0 [.lit (.int .i64 q), .lit (.int .i64 m)]]) rfl (by simp only [quiet, ev_set, e3]; exact load_cut rfl rfl b3.get rfl) rfl rfl ?_
  refine ops_c (f := 5) (args := [L, .agg [.lit (.int .i64 q), .lit (.int .i64 m)]]) rfl rfl rfl (clone_body Tryz.func5 rfl) rfl rfl ?_
  refine (gone_runs Γ H2.next H2 L ds q m (by omega) (hL.lst _ _) (Nat.le_refl _)).mono ?_
  rintro ⟨ex11, fr11, H11, v11⟩ ⟨hv11, k11⟩
  have hv11 : v11 = .lit (.bool (G ds q m)) := hv11
  subst hv11
  have k11 : Kept H2.next H2 H11 := k11
  have b2_11 := b2.kept k11
  have b3_11 := b3.kept k11
  refine ops_q (v := .lit (.bool (G ds q m))) (fs := []) rfl rfl rfl rfl ?_
  refine ops_nil ?_
  refine runs_seq ?_
  refine runs_region ?_
  refine ops_q (v := .ptr H1.next 0) (fs := []) rfl (by simp only [quiet, ev_set, e3] <;> rfl) rfl rfl ?_
  refine ops_q (v := .lit (.int .i64 q)) (fs := [.cells H1.next 0 [.lit (.int .i64 q)]]) rfl (by simp only [quiet, ev_set]; exact load_cell rfl b3_11.get rfl) rfl rfl ?_
  refine ops_q (v := .lit (.int .i64 N)) (fs := []) rfl (by simp only [quiet, ev_set, e5] <;> rfl) rfl rfl ?_
  refine ops_q (v := .lit (.int .i64 (N + 1))) (fs := []) rfl (by simp only [quiet, ev_set]; exact congrArg one (addQ (c := N + 1) rfl (by omega) (by omega))) rfl rfl ?_
  refine ops_q (v := .agg [.lit (.int .i64 q), .lit (.int .i64 (N + 1))]) (fs := []) rfl rfl rfl rfl ?_
  refine ops_q (v := .agg [.lit (.int .i64 q), .lit (.int .i64 m)]) (fs := [.cells H1.next 0 [.lit (.int .i64 q), .lit (.int .i64 m)]]) rfl (by simp only [quiet, ev_set, e3]; exact load_cut rfl rfl b3_11.get rfl) rfl rfl ?_
  refine ops_q (v := .agg (newC ⟨q, N + 1, 7, q, m⟩)) (fs := []) rfl (by simp only [quiet] <;> rfl) rfl rfl ?_
  refine ops_newA (cs := newC ⟨q, N + 1, 7, q, m⟩) rfl rfl rfl rfl rfl rfl rfl rfl (by simp only [ev_set] <;> rfl) rfl rfl (newC_len _) (newC_one _) (fun H12 g12 k12 n12 => ?_)
  have b2_12 := b2_11.kept k12
  have b3_12 := b3_11.kept k12
  refine ops_nil ?_
  refine runs_seq ?_
  refine runs_region ?_
  refine ops_q (v := .ptr H1.next 0) (fs := []) rfl (by simp only [quiet, ev_set, e3] <;> rfl) rfl rfl ?_
  refine ops_q (v := .lit (.int .i64 q)) (fs := [.cells H1.next 0 [.lit (.int .i64 q)]]) rfl (by simp only [quiet, ev_set]; exact load_cell rfl b3_12.get rfl) rfl rfl ?_
  refine ops_q (v := .lit (.int .i64 N)) (fs := []) rfl (by simp only [quiet, ev_set, e5] <;> rfl) rfl rfl ?_
  refine ops_q (v := .lit (.int .i64 (N + 2))) (fs := []) rfl (by simp only [quiet, ev_set]; exact congrArg one (addQ (c := N + 2) rfl (by omega) (by omega))) rfl rfl ?_
  refine ops_q (v := .agg [.lit (.int .i64 q), .lit (.int .i64 (N + 2))]) (fs := []) rfl rfl rfl rfl ?_
  refine ops_q (v := .ptr H11.next 0) (fs := []) rfl rfl rfl rfl ?_
  refine ops_q (v := .agg [.lit (.int .i64 q), .lit (.int .i64 (N + 1))]) (fs := [.cells H11.next 0 [.lit (.int .i64 q), .lit (.int .i64 (N + 1))]]) rfl (by simp only [quiet, ev_set]; exact load_cut rfl rfl g12.get rfl) rfl rfl ?_
  refine ops_q (v := .agg (newC ⟨q, N + 2, 7, q, N + 1⟩)) (fs := []) rfl (by simp only [quiet] <;> rfl) rfl rfl ?_
  refine ops_newA (cs := newC ⟨q, N + 2, 7, q, N + 1⟩) rfl rfl rfl rfl rfl rfl rfl rfl (by simp only [ev_set] <;> rfl) rfl rfl (newC_len _) (newC_one _) (fun H13 g13 k13 n13 => ?_)
  have b2_13 := b2_12.kept k13
  have b3_13 := b3_12.kept k13
  have g12_13 := g12.kept k13
  refine ops_nil ?_
  refine runs_seq ?_
  refine runs_region ?_
  refine ops_q (v := .ptr H1.next 0) (fs := []) rfl (by simp only [quiet, ev_set, e3] <;> rfl) rfl rfl ?_
  refine ops_q (v := .lit (.int .i64 q)) (fs := [.cells H1.next 0 [.lit (.int .i64 q)]]) rfl (by simp only [quiet, ev_set]; exact load_cell rfl b3_13.get rfl) rfl rfl ?_
  refine ops_q (v := .lit (.int .i64 (IntKind.i64.wrap (q + 1)))) (fs := []) rfl (by simp only [quiet, ev_set]; exact congrArg one addW) rfl rfl ?_
  refine ops_q (v := .lit (.int .i64 N)) (fs := []) rfl (by simp only [quiet, ev_set, e5] <;> rfl) rfl rfl ?_
  refine ops_q (v := .lit (.int .i64 (N + 3))) (fs := []) rfl (by simp only [quiet, ev_set]; exact congrArg one (addQ (c := N + 3) rfl (by omega) (by omega))) rfl rfl ?_
  refine ops_q (v := .agg [.lit (.int .i64 (IntKind.i64.wrap (q + 1))), .lit (.int .i64 (N + 3))]) (fs := []) rfl rfl rfl rfl ?_
  refine ops_q (v := .agg [.lit (.int .i64 q), .lit (.int .i64 m)]) (fs := [.cells H1.next 0 [.lit (.int .i64 q), .lit (.int .i64 m)]]) rfl (by simp only [quiet, ev_set, e3]; exact load_cut rfl rfl b3_13.get rfl) rfl rfl ?_
  refine ops_q (v := .agg (newC ⟨IntKind.i64.wrap (q + 1), N + 3, 7, q, m⟩)) (fs := []) rfl (by simp only [quiet] <;> rfl) rfl rfl ?_
  refine ops_newA (cs := newC ⟨IntKind.i64.wrap (q + 1), N + 3, 7, q, m⟩) rfl rfl rfl rfl rfl rfl rfl rfl (by simp only [ev_set] <;> rfl) rfl rfl (newC_len _) (newC_one _) (fun H14 g14 k14 n14 => ?_)
  have b2_14 := b2_13.kept k14
  have b3_14 := b3_13.kept k14
  have g12_14 := g12_13.kept k14
  have g13_14 := g13.kept k14
  refine ops_nil ?_
  refine runs_seq ?_
  refine runs_region ?_
  refine ops_q (v := .ptr H1.next 0) (fs := []) rfl (by simp only [quiet, ev_set, e3] <;> rfl) rfl rfl ?_
  refine ops_q (v := .lit (.int .i64 q)) (fs := [.cells H1.next 0 [.lit (.int .i64 q)]]) rfl (by simp only [quiet, ev_set]; exact load_cell rfl b3_14.get rfl) rfl rfl ?_
  refine ops_q (v := .ptr H1.next 1) (fs := []) rfl (by simp only [quiet, ev_set, e3] <;> rfl) rfl rfl ?_
  refine ops_q (v := .lit (.int .i64 m)) (fs := [.cells H1.next 1 [.lit (.int .i64 m)]]) rfl (by simp only [quiet, ev_set]; exact load_cell rfl b3_14.get rfl) rfl rfl ?_
  refine ops_q (v := .lit (.int .i64 (IntKind.i64.wrap (m - 1)))) (fs := []) rfl (by simp only [quiet, ev_set]; exact congrArg one subW) rfl rfl ?_
  refine ops_q (v := .agg [.lit (.int .i64 q), .lit (.int .i64 (IntKind.i64.wrap (m - 1)))]) (fs := []) rfl rfl rfl rfl ?_
  refine ops_q (v := .agg [.lit (.int .i64 q), .lit (.int .i64 m)]) (fs := [.cells H1.next 0 [.lit (.int .i64 q), .lit (.int .i64 m)]]) rfl (by simp only [quiet, ev_set, e3]; exact load_cut rfl rfl b3_14.get rfl) rfl rfl ?_
  refine ops_q (v := .agg (newC ⟨q, IntKind.i64.wrap (m - 1), 7, q, m⟩)) (fs := []) rfl (by simp only [quiet] <;> rfl) rfl rfl ?_
  refine ops_newA (cs := newC ⟨q, IntKind.i64.wrap (m - 1), 7, q, m⟩) rfl rfl rfl rfl rfl rfl rfl rfl (by simp only [ev_set] <;> rfl) rfl rfl (newC_len _) (newC_one _) (fun H15 g15 k15 n15 => ?_)
  have b2_15 := b2_14.kept k15
  have b3_15 := b3_14.kept k15
  have g12_15 := g12_14.kept k15
  have g13_15 := g13_14.kept k15
  have g14_15 := g14.kept k15
  refine ops_nil ?_
  refine runs_seq ?_
  refine runs_region ?_
  refine ops_q (v := .func (.func 6) [] [.ptr h.next 0, .ptr H1.next 0]) (fs := []) rfl (by simp only [quiet, List.map_cons, List.map_nil, ev_set, e2, e3] <;> rfl) rfl rfl ?_
  refine ops_q (v := .func (.func 6) [] [.ptr h.next 0, .ptr H1.next 0]) (fs := []) rfl rfl rfl rfl ?_
  refine ops_nil ?_
  refine runs_seq ?_
  refine runs_region ?_
  refine ops_q (v := .func (.func 6) [] [.ptr h.next 0, .ptr H1.next 0]) (fs := []) rfl rfl rfl rfl ?_
  refine ops_q (v := .agg (newC ⟨q, N + 1, 7, q, m⟩)) (fs := [.cells H11.next 0 (newC ⟨q, N + 1, 7, q, m⟩)]) rfl (by simp only [quiet, ev_set]; exact load_cut rfl rfl g12_15.get rfl) rfl rfl ?_
  refine ops_bsl (k := 1) (cs := ([(⟨q, N + 1, 7, q, m⟩ : D)].map newC).flatten) rfl rfl (by simp only <;> rfl) rfl rfl (fun H16 g16 k16 n16 => ?_)
  have b2_16 := b2_15.kept k16
  have b3_16 := b3_15.kept k16
  have g12_16 := g12_15.kept k16
  have g13_16 := g13_15.kept k16
  have g14_16 := g14_15.kept k16
  have g15_16 := g15.kept k16
  refine ops_c (f := 6) (args := [.slice H15.next 0 1 1, .ptr h.next 0, .ptr H1.next 0]) rfl rfl (by simp only [calleeOf, ev_set] <;> rfl) (clone_body Tryz.func6 rfl) rfl rfl ?_
  refine (with_runs Γ H16 h.next H1.next H15.next L ds [(⟨q, N + 1, 7, q, m⟩ : D)] q m (Nat.succ_pos _) (by omega) (by simp only [List.length_cons, List.length_nil]; decide) hL hsame b2_16 b3_16 g16).mono ?_
  rintro ⟨ex17, fr17, H17, v17⟩ ⟨hv17, k17⟩
  have hv17 : v17 = .lit (.bool (true)) := (hv17.trans (by rw [taken ht hm]))
  subst hv17
  have k17 : Kept H16.next H16 H17 := k17
  have b2_17 := b2_16.kept k17
  have b3_17 := b3_16.kept k17
  have g12_17 := g12_16.kept k17
  have g13_17 := g13_16.kept k17
  have g14_17 := g14_16.kept k17
  have g15_17 := g15_16.kept k17
  have g16_17 := g16.kept k17
  refine ops_q (v := .lit (.bool true)) (fs := []) rfl rfl rfl rfl ?_
  refine ops_q (v := .func (.func 6) [] [.ptr h.next 0, .ptr H1.next 0]) (fs := []) rfl rfl rfl rfl ?_
  refine ops_q (v := .agg (newC ⟨q, N + 1, 7, q, m⟩)) (fs := [.cells H11.next 0 (newC ⟨q, N + 1, 7, q, m⟩)]) rfl (by simp only [quiet, ev_set]; exact load_cut rfl rfl g12_17.get rfl) rfl rfl ?_
  refine ops_q (v := .agg (newC ⟨q, N + 2, 7, q, N + 1⟩)) (fs := [.cells H12.next 0 (newC ⟨q, N + 2, 7, q, N + 1⟩)]) rfl (by simp only [quiet, ev_set]; exact load_cut rfl rfl g13_17.get rfl) rfl rfl ?_
  refine ops_bsl (k := 2) (cs := ([(⟨q, N + 1, 7, q, m⟩ : D), (⟨q, N + 2, 7, q, N + 1⟩ : D)].map newC).flatten) rfl rfl (by simp only <;> rfl) rfl rfl (fun H18 g18 k18 n18 => ?_)
  have b2_18 := b2_17.kept k18
  have b3_18 := b3_17.kept k18
  have g12_18 := g12_17.kept k18
  have g13_18 := g13_17.kept k18
  have g14_18 := g14_17.kept k18
  have g15_18 := g15_17.kept k18
  have g16_18 := g16_17.kept k18
  refine ops_c (f := 6) (args := [.slice H17.next 0 2 2, .ptr h.next 0, .ptr H1.next 0]) rfl rfl (by simp only [calleeOf, ev_set] <;> rfl) (clone_body Tryz.func6 rfl) rfl rfl ?_
  refine (with_runs Γ H18 h.next H1.next H17.next L ds [(⟨q, N + 1, 7, q, m⟩ : D), (⟨q, N + 2, 7, q, N + 1⟩ : D)] q m (Nat.succ_pos _) (by omega) (by simp only [List.length_cons, List.length_nil]; decide) hL hsame b2_18 b3_18 g18).mono ?_
  rintro ⟨ex19, fr19, H19, v19⟩ ⟨hv19, k19⟩
  have hv19 : v19 = .lit (.bool (G ds q m)) := (hv19.trans (by rw [again hn ht hm]))
  subst hv19
  have k19 : Kept H18.next H18 H19 := k19
  have b2_19 := b2_18.kept k19
  have b3_19 := b3_18.kept k19
  have g12_19 := g12_18.kept k19
  have g13_19 := g13_18.kept k19
  have g14_19 := g14_18.kept k19
  have g15_19 := g15_18.kept k19
  have g16_19 := g16_18.kept k19
  have g18_19 := g18.kept k19
  refine ops_q (v := .lit (.bool (G ds q m))) (fs := []) rfl rfl rfl rfl ?_
  refine ops_q (v := .lit (.bool true)) (fs := []) rfl (by simp only [quiet, ev_set]; exact congrArg one (boolEq _ _ _)) rfl rfl ?_
  refine ops_q (v := .lit (.bool true)) (fs := []) rfl rfl rfl rfl ?_
  refine ops_q (v := .lit (.bool true)) (fs := []) rfl rfl rfl rfl ?_
  refine ops_q (v := .func (.func 6) [] [.ptr h.next 0, .ptr H1.next 0]) (fs := []) rfl rfl rfl rfl ?_
  refine ops_q (v := .agg (newC ⟨q, N + 2, 7, q, N + 1⟩)) (fs := [.cells H12.next 0 (newC ⟨q, N + 2, 7, q, N + 1⟩)]) rfl (by simp only [quiet, ev_set]; exact load_cut rfl rfl g13_19.get rfl) rfl rfl ?_
  refine ops_q (v := .agg (newC ⟨q, N + 1, 7, q, m⟩)) (fs := [.cells H11.next 0 (newC ⟨q, N + 1, 7, q, m⟩)]) rfl (by simp only [quiet, ev_set]; exact load_cut rfl rfl g12_19.get rfl) rfl rfl ?_
  refine ops_bsl (k := 2) (cs := ([(⟨q, N + 2, 7, q, N + 1⟩ : D), (⟨q, N + 1, 7, q, m⟩ : D)].map newC).flatten) rfl rfl (by simp only <;> rfl) rfl rfl (fun H20 g20 k20 n20 => ?_)
  have b2_20 := b2_19.kept k20
  have b3_20 := b3_19.kept k20
  have g12_20 := g12_19.kept k20
  have g13_20 := g13_19.kept k20
  have g14_20 := g14_19.kept k20
  have g15_20 := g15_19.kept k20
  have g16_20 := g16_19.kept k20
  have g18_20 := g18_19.kept k20
  refine ops_c (f := 6) (args := [.slice H19.next 0 2 2, .ptr h.next 0, .ptr H1.next 0]) rfl rfl (by simp only [calleeOf, ev_set] <;> rfl) (clone_body Tryz.func6 rfl) rfl rfl ?_
  refine (with_runs Γ H20 h.next H1.next H19.next L ds [(⟨q, N + 2, 7, q, N + 1⟩ : D), (⟨q, N + 1, 7, q, m⟩ : D)] q m (Nat.succ_pos _) (by omega) (by simp only [List.length_cons, List.length_nil]; decide) hL hsame b2_20 b3_20 g20).mono ?_
  rintro ⟨ex21, fr21, H21, v21⟩ ⟨hv21, k21⟩
  have hv21 : v21 = .lit (.bool (G ds q m)) := (hv21.trans (by rw [again' hn ht hm]))
  subst hv21
  have k21 : Kept H20.next H20 H21 := k21
  have b2_21 := b2_20.kept k21
  have b3_21 := b3_20.kept k21
  have g12_21 := g12_20.kept k21
  have g13_21 := g13_20.kept k21
  have g14_21 := g14_20.kept k21
  have g15_21 := g15_20.kept k21
  have g16_21 := g16_20.kept k21
  have g18_21 := g18_20.kept k21
  have g20_21 := g20.kept k21
  refine ops_q (v := .lit (.bool (G ds q m))) (fs := []) rfl rfl rfl rfl ?_
  refine ops_q (v := .lit (.bool true)) (fs := []) rfl (by simp only [quiet, ev_set]; exact congrArg one (boolEq _ _ _)) rfl rfl ?_
  refine ops_q (v := .lit (.bool true)) (fs := []) rfl rfl rfl rfl ?_
  refine ops_q (v := .lit (.bool true)) (fs := []) rfl rfl rfl rfl ?_
  refine ops_q (v := .func (.func 6) [] [.ptr h.next 0, .ptr H1.next 0]) (fs := []) rfl rfl rfl rfl ?_
  refine ops_q (v := .agg (newC ⟨IntKind.i64.wrap (q + 1), N + 3, 7, q, m⟩)) (fs := [.cells H13.next 0 (newC ⟨IntKind.i64.wrap (q + 1), N + 3, 7, q, m⟩)]) rfl (by simp only [quiet, ev_set]; exact load_cut rfl rfl g14_21.get rfl) rfl rfl ?_
  refine ops_bsl (k := 1) (cs := ([(⟨IntKind.i64.wrap (q + 1), N + 3, 7, q, m⟩ : D)].map newC).flatten) rfl rfl (by simp only <;> rfl) rfl rfl (fun H22 g22 k22 n22 => ?_)
  have b2_22 := b2_21.kept k22
  have b3_22 := b3_21.kept k22
  have g12_22 := g12_21.kept k22
  have g13_22 := g13_21.kept k22
  have g14_22 := g14_21.kept k22
  have g15_22 := g15_21.kept k22
  have g16_22 := g16_21.kept k22
  have g18_22 := g18_21.kept k22
  have g20_22 := g20_21.kept k22
  refine ops_c (f := 6) (args := [.slice H21.next 0 1 1, .ptr h.next 0, .ptr H1.next 0]) rfl rfl (by simp only [calleeOf, ev_set] <;> rfl) (clone_body Tryz.func6 rfl) rfl rfl ?_
  refine (with_runs Γ H22 h.next H1.next H21.next L ds [(⟨IntKind.i64.wrap (q + 1), N + 3, 7, q, m⟩ : D)] q m (Nat.succ_pos _) (by omega) (by simp only [List.length_cons, List.length_nil]; decide) hL hsame b2_22 b3_22 g22).mono ?_
  rintro ⟨ex23, fr23, H23, v23⟩ ⟨hv23, k23⟩
  have hv23 : v23 = .lit (.bool (G ds q m)) := (hv23.trans (by rw [beside hot m]))
  subst hv23
  have k23 : Kept H22.next H22 H23 := k23
  have b2_23 := b2_22.kept k23
  have b3_23 := b3_22.kept k23
  have g12_23 := g12_22.kept k23
  have g13_23 := g13_22.kept k23
  have g14_23 := g14_22.kept k23
  have g15_23 := g15_22.kept k23
  have g16_23 := g16_22.kept k23
  have g18_23 := g18_22.kept k23
  have g20_23 := g20_22.kept k23
  have g22_23 := g22.kept k23
  refine ops_q (v := .lit (.bool (G ds q m))) (fs := []) rfl rfl rfl rfl ?_
  refine ops_q (v := .lit (.bool true)) (fs := []) rfl (by simp only [quiet, ev_set]; exact congrArg one (boolEq _ _ _)) rfl rfl ?_
  refine ops_q (v := .lit (.bool true)) (fs := []) rfl rfl rfl rfl ?_
  refine ops_q (v := .lit (.bool true)) (fs := []) rfl rfl rfl rfl ?_
  refine ops_q (v := .ptr H1.next 1) (fs := []) rfl (by simp only [quiet, ev_set, e3] <;> rfl) rfl rfl ?_
  refine ops_q (v := .lit (.int .i64 m)) (fs := [.cells H1.next 1 [.lit (.int .i64 m)]]) rfl (by simp only [quiet, ev_set]; exact load_cell rfl b3_23.get rfl) rfl rfl ?_
  refine ops_q (v := .lit (.bool false)) (fs := []) rfl (by simp only [quiet, ev_set]; exact congrArg one (lssF hlow)) rfl rfl ?_
  refine ops_q (v := .lit (.bool false)) (fs := []) rfl rfl rfl rfl ?_
  refine ops_q (v := .func (.func 6) [] [.ptr h.next 0, .ptr H1.next 0]) (fs := []) rfl rfl rfl rfl ?_
  refine ops_q (v := .agg (newC ⟨q, IntKind.i64.wrap (m - 1), 7, q, m⟩)) (fs := [.cells H14.next 0 (newC ⟨q, IntKind.i64.wrap (m - 1), 7, q, m⟩)]) rfl (by simp only [quiet, ev_set]; exact load_cut rfl rfl g15_23.get rfl) rfl rfl ?_
  refine ops_bsl (k := 1) (cs := ([(⟨q, IntKind.i64.wrap (m - 1), 7, q, m⟩ : D)].map newC).flatten) rfl rfl (by simp only <;> rfl) rfl rfl (fun H24 g24 k24 n24 => ?_)
  have b2_24 := b2_23.kept k24
  have b3_24 := b3_23.kept k24
  have g12_24 := g12_23.kept k24
  have g13_24 := g13_23.kept k24
  have g14_24 := g14_23.kept k24
  have g15_24 := g15_23.kept k24
  have g16_24 := g16_23.kept k24
  have g18_24 := g18_23.kept k24
  have g20_24 := g20_23.kept k24
  have g22_24 := g22_23.kept k24
  refine ops_c (f := 6) (args := [.slice H23.next 0 1 1, .ptr h.next 0, .ptr H1.next 0]) rfl rfl (by simp only [calleeOf, ev_set] <;> rfl) (clone_body Tryz.func6 rfl) rfl rfl ?_
  refine (with_runs Γ H24 h.next H1.next H23.next L ds [(⟨q, IntKind.i64.wrap (m - 1), 7, q, m⟩ : D)] q m (Nat.succ_pos _) (by omega) (by simp only [List.length_cons, List.length_nil]; decide) hL hsame b2_24 b3_24 g24).mono ?_
  rintro ⟨ex25, fr25, H25, v25⟩ ⟨hv25, k25⟩
  have hv25 : v25 = .lit (.bool (G ds q m)) := (hv25.trans (by rw [beside hea m]))
  subst hv25
  have k25 : Kept H24.next H24 H25 := k25
  have b2_25 := b2_24.kept k25
  have b3_25 := b3_24.kept k25
  have g12_25 := g12_24.kept k25
  have g13_25 := g13_24.kept k25
  have g14_25 := g14_24.kept k25
  have g15_25 := g15_24.kept k25
  have g16_25 := g16_24.kept k25
  have g18_25 := g18_24.kept k25
  have g20_25 := g20_24.kept k25
  have g22_25 := g22_24.kept k25
  have g24_25 := g24.kept k25
  refine ops_q (v := .lit (.bool (G ds q m))) (fs := []) rfl rfl rfl rfl ?_
  refine ops_q (v := .lit (.bool true)) (fs := []) rfl (by simp only [quiet, ev_set]; exact congrArg one (boolEq _ _ _)) rfl rfl ?_
  refine ops_q (v := .lit (.bool true)) (fs := []) rfl rfl rfl rfl ?_
  refine ops_q (v := .lit (.bool true)) (fs := []) rfl rfl rfl rfl ?_
  refine ops_q (v := .lit (.bool true)) (fs := []) rfl rfl rfl rfl ?_
  refine ops_nil ?_
  refine runs_ret ?_
  exact ⟨_, rfl, rfl⟩
end Go.Proofs.YtogagnopkkiniaaGreatDoor.gone
