/-
  THE LAW SnapLeast; by the author's gen_snap.py, in the calculus of runs.
-/
import Derived.Test.YtjilmneaeocimaaGreatDoorSpGV
namespace Go.Proofs.YtjilmneaeocimaaGreatDoor.snap
open Go Go.Proofs.YtjilmneaeocimaaGreatDoor.Ev

set_option maxRecDepth 10000 in
theorem tySeens : tyU Tryz.prog 24 = some (.slice 26) := rfl
set_option maxRecDepth 10000 in
theorem szPtr : tySize Tryz.prog 26 = some 1 := rfl
set_option maxRecDepth 10000 in
theorem aggPtr : tyAgg Tryz.prog 26 = some false := rfl
theorem vb_built {Γ : Glob} {h : Hp} {B off cap : Nat} {vs : List SV} {rs : List (List (Int × Int))} (hB : At h B (.cells vs 26)) (hl : ∀ k r, rs[k]? = some r → ∃ v, vs[off + k]? = some v ∧ SeenV h v r) : Vb Γ h.next h (.slice B off rs.length cap) rs := by
  refine ⟨fun h' => by simp only [lenQ, tySeens]; rfl, fun k r hr => ?_⟩
  obtain ⟨v, h1, h2⟩ := hl k r hr
  have hk : k < rs.length := (List.getElem?_eq_some_iff.1 hr).1
  refine ⟨.ptr B (off + k), v, ?_, fun h' kk => ⟨h2.kept kk, _, load_cell aggPtr (hB.kept kk).get h1⟩⟩
  simp only [indexAddrQ, tySeens, szPtr, idxQ]
  rw [show Nat.blt k rs.length = true from Nat.ble_eq_true_of_le hk, cond_true]
  simp only [Nat.mul_one]
theorem vs_built {Γ : Glob} {h : Hp} {B : Nat} {vs : List SV} {rs : List (List (Int × Int))} (hB : At h B (.cells vs 26)) (hl : ∀ (k : Nat) r, rs[k]? = some r → ∃ v, vs[k]? = some v ∧ SeenV h v r) : Vs Γ h.next h (.slice B 0 rs.length rs.length) rs := by
  refine ⟨vb_built hB fun k r hr => by rw [Nat.zero_add]; exact hl k r hr, fun r rs' e => ?_⟩
  subst e
  have h1 : boundQ none (r :: rs').length (r :: rs').length = some (r :: rs').length := rfl
  have h2 : boundQ (some (.lit (.int .i64 1))) 0 (r :: rs').length = some 1 := by
    show (bif Nat.ble 1 (rs'.length + 1) then some 1 else none) = _
    rw [Nat.ble_eq_true_of_le (by omega), cond_true]
  by_cases h0 : rs'.length = 0
  · obtain rfl := List.eq_nil_of_length_eq_zero h0
    exact ⟨.slice B 0 0 0, by simp only [sliceQ, tySeens, szPtr, h1, h2]; rfl, vb_built (rs := []) hB fun k r hr => by simp at hr⟩
  · refine ⟨.slice B 1 rs'.length rs'.length, ?_, vb_built hB fun k r' hr => ?_⟩
    · simp only [sliceQ, tySeens, szPtr, h1, h2]
      rw [beq_f (by rw [List.length_cons]; omega), cond_false]
      rfl
    · obtain ⟨v, e1, e2⟩ := hl (k + 1) r' (by rw [List.getElem?_cons_succ]; exact hr)
      exact ⟨v, by rw [Nat.add_comm]; exact e1, e2⟩
theorem told_awake {Γ : Glob} {hp : Hp} {Φ : Out → Prop} (h : ∀ fr, Φ ⟨.ret, fr, hp, .lit (.bool true)⟩) : Runs Tryz.prog Γ (.call 5 [] hp) Φ :=
  runs_told (show theMem 5 [] hp = _ from rfl) fun o ho => by
    rw [List.mem_singleton.1 ho]
    exact h _
set_option maxHeartbeats 8000000 in
set_option maxRecDepth 20000 in
theorem equal_runs (Γ : Glob) (h : Hp) (b1 M1 b2 M2 : Nat) (r : List (Int × Int)) (hr : r.length ≤ 1000000) (hs1 : SeenAt h b1 M1 r) (hs2 : SeenAt h b2 M2 r) : Runs Tryz.prog Γ (.call 11 [.ptr b1 0, .ptr b2 0] h) (Tells h (.lit (.bool true))) := by
  have hc : covers r r = true := covers_self hs1.asc hs1.good
  refine runs_call Tryz.func11 rfl ?_
  refine runs_seq ?_
  refine runs_region ?_
  refine ops_q (v := .lit (.bool false)) (fs := []) rfl rfl rfl rfl ?_
  refine ops_nil ?_
  refine runs_seq ?_
  refine runs_region ?_
  refine ops_q (v := .ptr b1 0) (fs := []) rfl rfl rfl rfl ?_
  refine ops_q (v := .lit (.bool true)) (fs := []) rfl rfl rfl rfl ?_
  refine ops_q (v := .lit (.bool true)) (fs := []) rfl rfl rfl rfl ?_
  refine ops_q (v := .ptr b2 0) (fs := []) rfl rfl rfl rfl ?_
  refine ops_q (v := .lit (.bool true)) (fs := []) rfl rfl rfl rfl ?_
  refine ops_q (v := .lit (.bool true)) (fs := []) rfl rfl rfl rfl ?_
  refine ops_q (v := .lit (.bool true)) (fs := []) rfl rfl rfl rfl ?_
  refine ops_q (v := .ptr b1 0) (fs := []) rfl rfl rfl rfl ?_
  refine ops_q (v := .ptr b2 0) (fs := []) rfl rfl rfl rfl ?_
  refine ops_c (f := 10) (args := [.ptr b1 0, .ptr b2 0]) rfl rfl rfl (clone_body Tryz.func10 rfl) rfl rfl ?_
  refine ((covers_runs Γ h b1 M1 (.ptr b2 0) r r hr hs1 (.inl ⟨b2, M2, rfl, hs2⟩)).mono fun o ho => (⟨ho.1.trans (by rw [hc]), ho.2⟩ : Tells h (.lit (.bool true)) o)).mono ?_
  rintro ⟨ex1, fr1, H1, v1⟩ ⟨hv1, k1⟩
  have hv1 : v1 = .lit (.bool true) := hv1
  subst hv1
  have k1 : Kept h.next h H1 := k1
  have hs1_1 := hs1.kept k1
  have hs2_1 := hs2.kept k1
  refine ops_q (v := .lit (.bool true)) (fs := []) rfl rfl rfl rfl ?_
  refine ops_q (v := .lit (.bool true)) (fs := []) rfl rfl rfl rfl ?_
  refine ops_q (v := .ptr b2 0) (fs := []) rfl rfl rfl rfl ?_
  refine ops_q (v := .ptr b1 0) (fs := []) rfl rfl rfl rfl ?_
  refine ops_c (f := 10) (args := [.ptr b2 0, .ptr b1 0]) rfl rfl rfl (clone_body Tryz.func10 rfl) rfl rfl ?_
  refine ((covers_runs Γ H1 b2 M2 (.ptr b1 0) r r hr hs2_1 (.inl ⟨b1, M1, rfl, hs1_1⟩)).mono fun o ho => (⟨ho.1.trans (by rw [hc]), ho.2⟩ : Tells H1 (.lit (.bool true)) o)).mono ?_
  rintro ⟨ex2, fr2, H2, v2⟩ ⟨hv2, k2⟩
  have hv2 : v2 = .lit (.bool true) := hv2
  subst hv2
  have k2 : Kept H1.next H1 H2 := k2
  have hs1_2 := hs1_1.kept k2
  have hs2_2 := hs2_1.kept k2
  refine ops_q (v := .lit (.bool true)) (fs := []) rfl rfl rfl rfl ?_
  refine ops_q (v := .lit (.bool true)) (fs := []) rfl rfl rfl rfl ?_
  refine ops_nil ?_
  refine runs_ret ?_
  exact ⟨_, rfl, rfl, k1.then k2⟩

theorem minR_len (q r : List (Int × Int)) : (minR q r).length ≤ r.length := List.length_filterMap_le ..
theorem stable_len (rs : List (List (Int × Int))) (h : ∀ r ∈ rs, r.length ≤ 1000000) : (stable rs).length ≤ 1000000 := by
  cases rs with
  | nil => exact Nat.zero_le _
  | cons r rs =>
    suffices hs : ∀ (rs : List (List (Int × Int))) (q : List (Int × Int)), q.length ≤ 1000000 → (∀ r ∈ rs, r.length ≤ 1000000) → (rs.foldl minR q).length ≤ 1000000 from hs rs r (h r (List.mem_cons_self ..)) fun s hs => h s (List.mem_cons_of_mem _ hs)
    intro rs
    induction rs with
    | nil => exact fun q hq _ => hq
    | cons s rs ih => exact fun q _ hr => ih (minR q s) (Nat.le_trans (minR_len q s) (hr s (List.mem_cons_self ..))) fun x hx => hr x (List.mem_cons_of_mem _ hx)
set_option maxHeartbeats 8000000 in
set_option maxRecDepth 20000 in
/-- **The law tells true.** -/
theorem least_runs (Γ : Glob) (h : Hp) (La Lb Lc : SV) (a b c : List (Int × Int)) (ha : ∀ lo h, Ids Γ lo h La a) (hb : ∀ lo h, Ids Γ lo h Lb b) (hc : ∀ lo h, Ids Γ lo h Lc c) : Runs Tryz.prog Γ (.call 4 [La, Lb, Lc] h) fun r => r.v = .lit (.bool true) := by
  by_cases na : 50 < a.length
  case pos =>
    refine runs_call Tryz.func4 rfl ?_
    refine runs_seq ?_
    refine runs_region ?_
    refine ops_q (v := .lit (.bool false)) (fs := []) rfl rfl rfl rfl ?_
    refine ops_nil ?_
    refine runs_seq ?_
    refine runs_seq ?_
    refine runs_region ?_
    refine ops_c (f := 5) (args := []) rfl rfl rfl (clone_body Tryz.func5 rfl) rfl rfl (told_awake fun fr => ?_)
    refine ops_q (v := .lit (.bool false)) (fs := []) rfl rfl rfl rfl ?_
    refine ops_nil ?_
    refine runs_cond false rfl ?_
    refine runs_skip ?_
    refine runs_seq ?_
    refine runs_seq ?_
    refine runs_region ?_
    refine ops_q (v := La) (fs := []) rfl rfl rfl rfl ?_
    refine ops_q (v := .lit (.int .i64 (Int.ofNat a.length))) (fs := []) rfl ((ha 0 h).1 _) rfl rfl ?_
    refine ops_q (v := .lit (.bool true)) (fs := []) rfl (by simp only [quiet, ev_set]; exact congrArg one (gtrT (a := Int.ofNat a.length) (b := 50) (by simp only [Int.ofNat_eq_natCast]; omega))) rfl rfl ?_
    refine ops_q (v := .lit (.bool true)) (fs := []) rfl rfl rfl rfl ?_
    refine ops_u rfl rfl rfl ?_
    refine ops_u rfl rfl rfl ?_
    refine ops_u rfl rfl rfl ?_
    refine ops_q (v := .lit (.bool true)) (fs := []) rfl rfl rfl rfl ?_
    refine ops_q (v := .lit (.bool true)) (fs := []) rfl rfl rfl rfl ?_
    refine ops_u rfl rfl rfl ?_
    refine ops_u rfl rfl rfl ?_
    refine ops_u rfl rfl rfl ?_
    refine ops_q (v := .lit (.bool true)) (fs := []) rfl rfl rfl rfl ?_
    refine ops_nil ?_
    refine runs_cond true rfl ?_
    refine runs_seq ?_
    refine runs_region ?_
    refine ops_q (v := .lit (.bool true)) (fs := []) rfl rfl rfl rfl ?_
    refine ops_nil ?_
    refine runs_ret ?_
    exact ⟨_, rfl, rfl⟩
  by_cases nb : 50 < b.length
  case pos =>
    refine runs_call Tryz.func4 rfl ?_
    refine runs_seq ?_
    refine runs_region ?_
    refine ops_q (v := .lit (.bool false)) (fs := []) rfl rfl rfl rfl ?_
    refine ops_nil ?_
    refine runs_seq ?_
    refine runs_seq ?_
    refine runs_region ?_
    refine ops_c (f := 5) (args := []) rfl rfl rfl (clone_body Tryz.func5 rfl) rfl rfl (told_awake fun fr => ?_)
    refine ops_q (v := .lit (.bool false)) (fs := []) rfl rfl rfl rfl ?_
    refine ops_nil ?_
    refine runs_cond false rfl ?_
    refine runs_skip ?_
    refine runs_seq ?_
    refine runs_seq ?_
    refine runs_region ?_
    refine ops_q (v := La) (fs := []) rfl rfl rfl rfl ?_
    refine ops_q (v := .lit (.int .i64 (Int.ofNat a.length))) (fs := []) rfl ((ha 0 h).1 _) rfl rfl ?_
    refine ops_q (v := .lit (.bool false)) (fs := []) rfl (by simp only [quiet, ev_set]; exact congrArg one (gtrF (a := Int.ofNat a.length) (b := 50) (by simp only [Int.ofNat_eq_natCast]; omega))) rfl rfl ?_
    refine ops_q (v := .lit (.bool false)) (fs := []) rfl rfl rfl rfl ?_
    refine ops_q (v := Lb) (fs := []) rfl rfl rfl rfl ?_
    refine ops_q (v := .lit (.int .i64 (Int.ofNat b.length))) (fs := []) rfl ((hb 0 h).1 _) rfl rfl ?_
    refine ops_q (v := .lit (.bool true)) (fs := []) rfl (by simp only [quiet, ev_set]; exact congrArg one (gtrT (a := Int.ofNat b.length) (b := 50) (by simp only [Int.ofNat_eq_natCast]; omega))) rfl rfl ?_
    refine ops_q (v := .lit (.bool true)) (fs := []) rfl rfl rfl rfl ?_
    refine ops_q (v := .lit (.bool true)) (fs := []) rfl rfl rfl rfl ?_
    refine ops_u rfl rfl rfl ?_
    refine ops_u rfl rfl rfl ?_
    refine ops_u rfl rfl rfl ?_
    refine ops_q (v := .lit (.bool true)) (fs := []) rfl rfl rfl rfl ?_
    refine ops_nil ?_
    refine runs_cond true rfl ?_
    refine runs_seq ?_
    refine runs_region ?_
    refine ops_q (v := .lit (.bool true)) (fs := []) rfl rfl rfl rfl ?_
    refine ops_nil ?_
    refine runs_ret ?_
    exact ⟨_, rfl, rfl⟩
  by_cases nc : 50 < c.length
  case pos =>
    refine runs_call Tryz.func4 rfl ?_
    refine runs_seq ?_
    refine runs_region ?_
    refine ops_q (v := .lit (.bool false)) (fs := []) rfl rfl rfl rfl ?_
    refine ops_nil ?_
    refine runs_seq ?_
    refine runs_seq ?_
    refine runs_region ?_
    refine ops_c (f := 5) (args := []) rfl rfl rfl (clone_body Tryz.func5 rfl) rfl rfl (told_awake fun fr => ?_)
    refine ops_q (v := .lit (.bool false)) (fs := []) rfl rfl rfl rfl ?_
    refine ops_nil ?_
    refine runs_cond false rfl ?_
    refine runs_skip ?_
    refine runs_seq ?_
    refine runs_seq ?_
    refine runs_region ?_
    refine ops_q (v := La) (fs := []) rfl rfl rfl rfl ?_
    refine ops_q (v := .lit (.int .i64 (Int.ofNat a.length))) (fs := []) rfl ((ha 0 h).1 _) rfl rfl ?_
    refine ops_q (v := .lit (.bool false)) (fs := []) rfl (by simp only [quiet, ev_set]; exact congrArg one (gtrF (a := Int.ofNat a.length) (b := 50) (by simp only [Int.ofNat_eq_natCast]; omega))) rfl rfl ?_
    refine ops_q (v := .lit (.bool false)) (fs := []) rfl rfl rfl rfl ?_
    refine ops_q (v := Lb) (fs := []) rfl rfl rfl rfl ?_
    refine ops_q (v := .lit (.int .i64 (Int.ofNat b.length))) (fs := []) rfl ((hb 0 h).1 _) rfl rfl ?_
    refine ops_q (v := .lit (.bool false)) (fs := []) rfl (by simp only [quiet, ev_set]; exact congrArg one (gtrF (a := Int.ofNat b.length) (b := 50) (by simp only [Int.ofNat_eq_natCast]; omega))) rfl rfl ?_
    refine ops_q (v := .lit (.bool false)) (fs := []) rfl rfl rfl rfl ?_
    refine ops_q (v := .lit (.bool false)) (fs := []) rfl rfl rfl rfl ?_
    refine ops_q (v := Lc) (fs := []) rfl rfl rfl rfl ?_
    refine ops_q (v := .lit (.int .i64 (Int.ofNat c.length))) (fs := []) rfl ((hc 0 h).1 _) rfl rfl ?_
    refine ops_q (v := .lit (.bool true)) (fs := []) rfl (by simp only [quiet, ev_set]; exact congrArg one (gtrT (a := Int.ofNat c.length) (b := 50) (by simp only [Int.ofNat_eq_natCast]; omega))) rfl rfl ?_
    refine ops_q (v := .lit (.bool true)) (fs := []) rfl rfl rfl rfl ?_
    refine ops_nil ?_
    refine runs_cond true rfl ?_
    refine runs_seq ?_
    refine runs_region ?_
    refine ops_q (v := .lit (.bool true)) (fs := []) rfl rfl rfl rfl ?_
    refine ops_nil ?_
    refine runs_ret ?_
    exact ⟨_, rfl, rfl⟩
  have zba : (allR a).length ≤ 1000000 := Nat.le_trans (allR_len a) (by omega)
  have zbb : (allR b).length ≤ 1000000 := Nat.le_trans (allR_len b) (by omega)
  have zbc : (allR c).length ≤ 1000000 := Nat.le_trans (allR_len c) (by omega)
  have hc1 : stable [allR b, allR a] = stable [allR a, allR b] := minR_comm (allR_asc b) (allR_asc a) (allR_good b) (allR_good a)
  have hc2 : stable [allR a, allR b, allR c] = stable [stable [allR a, allR b], allR c] := rfl
  have hc3 : allR a = stable [allR a, allR a] := (minR_self (allR_asc a) (allR_good a)).symm
  refine runs_call Tryz.func4 rfl ?_
  refine runs_seq ?_
  refine runs_region ?_
  refine ops_q (v := .lit (.bool false)) (fs := []) rfl rfl rfl rfl ?_
  refine ops_nil ?_
  refine runs_seq ?_
  refine runs_seq ?_
  refine runs_region ?_
  refine ops_c (f := 5) (args := []) rfl rfl rfl (clone_body Tryz.func5 rfl) rfl rfl (told_awake fun fr => ?_)
  refine ops_q (v := .lit (.bool false)) (fs := []) rfl rfl rfl rfl ?_
  refine ops_nil ?_
  refine runs_cond false rfl ?_
  refine runs_skip ?_
  refine runs_seq ?_
  refine runs_seq ?_
  refine runs_region ?_
  refine ops_q (v := La) (fs := []) rfl rfl rfl rfl ?_
  refine ops_q (v := .lit (.int .i64 (Int.ofNat a.length))) (fs := []) rfl ((ha 0 h).1 _) rfl rfl ?_
  refine ops_q (v := .lit (.bool false)) (fs := []) rfl (by simp only [quiet, ev_set]; exact congrArg one (gtrF (a := Int.ofNat a.length) (b := 50) (by simp only [Int.ofNat_eq_natCast]; omega))) rfl rfl ?_
  refine ops_q (v := .lit (.bool false)) (fs := []) rfl rfl rfl rfl ?_
  refine ops_q (v := Lb) (fs := []) rfl rfl rfl rfl ?_
  refine ops_q (v := .lit (.int .i64 (Int.ofNat b.length))) (fs := []) rfl ((hb 0 h).1 _) rfl rfl ?_
  refine ops_q (v := .lit (.bool false)) (fs := []) rfl (by simp only [quiet, ev_set]; exact congrArg one (gtrF (a := Int.ofNat b.length) (b := 50) (by simp only [Int.ofNat_eq_natCast]; omega))) rfl rfl ?_
  refine ops_q (v := .lit (.bool false)) (fs := []) rfl rfl rfl rfl ?_
  refine ops_q (v := .lit (.bool false)) (fs := []) rfl rfl rfl rfl ?_
  refine ops_q (v := Lc) (fs := []) rfl rfl rfl rfl ?_
  refine ops_q (v := .lit (.int .i64 (Int.ofNat c.length))) (fs := []) rfl ((hc 0 h).1 _) rfl rfl ?_
  refine ops_q (v := .lit (.bool false)) (fs := []) rfl (by simp only [quiet, ev_set]; exact congrArg one (gtrF (a := Int.ofNat c.length) (b := 50) (by simp only [Int.ofNat_eq_natCast]; omega))) rfl rfl ?_
  refine ops_q (v := .lit (.bool false)) (fs := []) rfl rfl rfl rfl ?_
  refine ops_nil ?_
  refine runs_cond false rfl ?_
  refine runs_skip ?_
  refine runs_seq ?_
  refine runs_region ?_
  refine ops_q (v := La) (fs := []) rfl rfl rfl rfl ?_
  refine ops_c (f := 6) (args := [La]) rfl rfl rfl (clone_body Tryz.func6 rfl) rfl rfl ?_
  refine (of_runs Γ h La a (by omega) (ha _ _)).mono ?_
  rintro ⟨ex1, fr1, H1, v1⟩ ⟨ba, Ma, la, hv1, sa, ia, k1⟩
  have hv1 : v1 = .tuple [.ptr ba 0, la] := hv1
  subst hv1
  have k1 : Kept h.next h H1 := k1
  have sa : SeenAt H1 ba Ma (allR a) := sa
  have ia : IdR H1 h.next la (allR a) := ia
  refine ops_q (v := .tuple [.ptr ba 0, la]) (fs := []) rfl rfl rfl rfl ?_
  refine ops_q (v := .ptr ba 0) (fs := []) rfl rfl rfl rfl ?_
  refine ops_q (v := la) (fs := []) rfl rfl rfl rfl ?_
  refine ops_q (v := .ptr ba 0) (fs := []) rfl rfl rfl rfl ?_
  refine ops_q (v := la) (fs := []) rfl rfl rfl rfl ?_
  refine ops_nil ?_
  refine runs_seq ?_
  refine runs_region ?_
  refine ops_q (v := Lb) (fs := []) rfl rfl rfl rfl ?_
  refine ops_c (f := 6) (args := [Lb]) rfl rfl rfl (clone_body Tryz.func6 rfl) rfl rfl ?_
  refine (of_runs Γ H1 Lb b (by omega) (hb _ _)).mono ?_
  rintro ⟨ex2, fr2, H2, v2⟩ ⟨bb, Mb, lb, hv2, sb, ib, k2⟩
  have hv2 : v2 = .tuple [.ptr bb 0, lb] := hv2
  subst hv2
  have k2 : Kept H1.next H1 H2 := k2
  have sb : SeenAt H2 bb Mb (allR b) := sb
  have ib : IdR H2 H1.next lb (allR b) := ib
  have sa_2 := sa.kept k2
  have ia_2 := ia.kept k2
  refine ops_q (v := .tuple [.ptr bb 0, lb]) (fs := []) rfl rfl rfl rfl ?_
  refine ops_q (v := .ptr bb 0) (fs := []) rfl rfl rfl rfl ?_
  refine ops_q (v := lb) (fs := []) rfl rfl rfl rfl ?_
  refine ops_q (v := .ptr bb 0) (fs := []) rfl rfl rfl rfl ?_
  refine ops_q (v := lb) (fs := []) rfl rfl rfl rfl ?_
  refine ops_nil ?_
  refine runs_seq ?_
  refine runs_region ?_
  refine ops_q (v := Lc) (fs := []) rfl rfl rfl rfl ?_
  refine ops_c (f := 6) (args := [Lc]) rfl rfl rfl (clone_body Tryz.func6 rfl) rfl rfl ?_
  refine (of_runs Γ H2 Lc c (by omega) (hc _ _)).mono ?_
  rintro ⟨ex3, fr3, H3, v3⟩ ⟨bc, Mc, lc, hv3, sc, ic, k3⟩
  have hv3 : v3 = .tuple [.ptr bc 0, lc] := hv3
  subst hv3
  have k3 : Kept H2.next H2 H3 := k3
  have sc : SeenAt H3 bc Mc (allR c) := sc
  have ic : IdR H3 H2.next lc (allR c) := ic
  have sa_3 := sa_2.kept k3
  have ia_3 := ia_2.kept k3
  have sb_3 := sb.kept k3
  have ib_3 := ib.kept k3
  refine ops_q (v := .tuple [.ptr bc 0, lc]) (fs := []) rfl rfl rfl rfl ?_
  refine ops_q (v := .ptr bc 0) (fs := []) rfl rfl rfl rfl ?_
  refine ops_q (v := lc) (fs := []) rfl rfl rfl rfl ?_
  refine ops_q (v := .ptr bc 0) (fs := []) rfl rfl rfl rfl ?_
  refine ops_q (v := lc) (fs := []) rfl rfl rfl rfl ?_
  refine ops_nil ?_
  refine runs_seq ?_
  refine runs_region ?_
  refine ops_q (v := .lit (.func (.func 11) #[] #[])) (fs := []) rfl rfl rfl rfl ?_
  refine ops_nil ?_
  refine runs_seq ?_
  refine runs_region ?_
  refine ops_q (v := .lit (.func (.func 11) #[] #[])) (fs := []) rfl rfl rfl rfl ?_
  refine ops_q (v := .ptr ba 0) (fs := []) rfl rfl rfl rfl ?_
  refine ops_q (v := .ptr bb 0) (fs := []) rfl rfl rfl rfl ?_
  refine ops_bsl (k := 2) (cs := [.ptr ba 0, .ptr bb 0]) rfl rfl (by simp only <;> rfl) rfl rfl (fun H4 g4 k4 n4 => ?_)
  have sa_4 := sa_3.kept k4
  have ia_4 := ia_3.kept k4
  have sb_4 := sb_3.kept k4
  have ib_4 := ib_3.kept k4
  have sc_4 := sc.kept k4
  have ic_4 := ic.kept k4
  have hl1 : ∀ k r, [allR a, allR b][k]? = some r → ∃ v, [(.ptr ba 0 : SV), (.ptr bb 0 : SV)][k]? = some v ∧ SeenV H4 v r := fun k r hr => by
    match k, hr with
    | 0, rfl => exact ⟨.ptr ba 0, rfl, .inl ⟨ba, Ma, rfl, sa_4⟩⟩
    | 1, rfl => exact ⟨.ptr bb 0, rfl, .inl ⟨bb, Mb, rfl, sb_4⟩⟩
  have hd1 : ∀ r ∈ [allR a, allR b], r.length ≤ 1000000 ∧ Asc r ∧ Good r := fun r hr => by
    simp only [List.mem_cons, List.not_mem_nil, or_false] at hr
    rcases hr with rfl | rfl
    · exact ⟨zba, sa_4.asc, sa_4.good⟩
    · exact ⟨zbb, sb_4.asc, sb_4.good⟩
  refine ops_c (f := 7) (args := [.slice H3.next 0 2 2]) rfl rfl rfl (clone_body Tryz.func7 rfl) rfl rfl ?_
  refine (stable_runs Γ H4 (.slice H3.next 0 2 2) [allR a, allR b] (show 2 ≤ 1000000 from by decide) (fun r hr => (hd1 r hr).1) (fun r hr => (hd1 r hr).2) (vs_built g4 hl1)).mono ?_
  rintro ⟨ex5, fr5, H5, v5⟩ ⟨p1, m1, hv5, t1, k5⟩
  have hv5 : v5 = .ptr p1 0 := hv5
  subst hv5
  have k5 : Kept H4.next H4 H5 := k5
  have t1 : SeenAt H5 p1 m1 (stable [allR a, allR b]) := t1
  have zp1 : (stable [allR a, allR b]).length ≤ 1000000 := stable_len _ (fun r hr => (hd1 r hr).1)
  have sa_5 := sa_4.kept k5
  have ia_5 := ia_4.kept k5
  have sb_5 := sb_4.kept k5
  have ib_5 := ib_4.kept k5
  have sc_5 := sc_4.kept k5
  have ic_5 := ic_4.kept k5
  have g4_5 := g4.kept k5
  refine ops_q (v := .ptr bb 0) (fs := []) rfl rfl rfl rfl ?_
  refine ops_q (v := .ptr ba 0) (fs := []) rfl rfl rfl rfl ?_
  refine ops_bsl (k := 2) (cs := [.ptr bb 0, .ptr ba 0]) rfl rfl (by simp only <;> rfl) rfl rfl (fun H6 g6 k6 n6 => ?_)
  have sa_6 := sa_5.kept k6
  have ia_6 := ia_5.kept k6
  have sb_6 := sb_5.kept k6
  have ib_6 := ib_5.kept k6
  have sc_6 := sc_5.kept k6
  have ic_6 := ic_5.kept k6
  have g4_6 := g4_5.kept k6
  have t1_6 := t1.kept k6
  have hl2 : ∀ k r, [allR b, allR a][k]? = some r → ∃ v, [(.ptr bb 0 : SV), (.ptr ba 0 : SV)][k]? = some v ∧ SeenV H6 v r := fun k r hr => by
    match k, hr with
    | 0, rfl => exact ⟨.ptr bb 0, rfl, .inl ⟨bb, Mb, rfl, sb_6⟩⟩
    | 1, rfl => exact ⟨.ptr ba 0, rfl, .inl ⟨ba, Ma, rfl, sa_6⟩⟩
  have hd2 : ∀ r ∈ [allR b, allR a], r.length ≤ 1000000 ∧ Asc r ∧ Good r := fun r hr => by
    simp only [List.mem_cons, List.not_mem_nil, or_false] at hr
    rcases hr with rfl | rfl
    · exact ⟨zbb, sb_6.asc, sb_6.good⟩
    · exact ⟨zba, sa_6.asc, sa_6.good⟩
  refine ops_c (f := 7) (args := [.slice H5.next 0 2 2]) rfl rfl rfl (clone_body Tryz.func7 rfl) rfl rfl ?_
  refine (stable_runs Γ H6 (.slice H5.next 0 2 2) [allR b, allR a] (show 2 ≤ 1000000 from by decide) (fun r hr => (hd2 r hr).1) (fun r hr => (hd2 r hr).2) (vs_built g6 hl2)).mono ?_
  rintro ⟨ex7, fr7, H7, v7⟩ ⟨p2, m2, hv7, t2, k7⟩
  have hv7 : v7 = .ptr p2 0 := hv7
  subst hv7
  have k7 : Kept H6.next H6 H7 := k7
  have t2 : SeenAt H7 p2 m2 (stable [allR b, allR a]) := t2
  have zp2 : (stable [allR b, allR a]).length ≤ 1000000 := stable_len _ (fun r hr => (hd2 r hr).1)
  have sa_7 := sa_6.kept k7
  have ia_7 := ia_6.kept k7
  have sb_7 := sb_6.kept k7
  have ib_7 := ib_6.kept k7
  have sc_7 := sc_6.kept k7
  have ic_7 := ic_6.kept k7
  have g4_7 := g4_6.kept k7
  have t1_7 := t1_6.kept k7
  have g6_7 := g6.kept k7
  refine ops_c (f := 11) (args := [.ptr p1 0, .ptr p2 0]) rfl rfl (by simp only [calleeOf, ev_set] <;> rfl) (clone_body Tryz.func11 rfl) rfl rfl ?_
  refine (equal_runs Γ H7 p1 m1 p2 m2 (stable [allR a, allR b]) zp1 t1_7 (hc1 ▸ t2)).mono ?_
  rintro ⟨ex8, fr8, H8, v8⟩ ⟨hv8, k8⟩
  have hv8 : v8 = .lit (.bool true) := hv8
  subst hv8
  have k8 : Kept H7.next H7 H8 := k8
  have sa_8 := sa_7.kept k8
  have ia_8 := ia_7.kept k8
  have sb_8 := sb_7.kept k8
  have ib_8 := ib_7.kept k8
  have sc_8 := sc_7.kept k8
  have ic_8 := ic_7.kept k8
  have g4_8 := g4_7.kept k8
  have t1_8 := t1_7.kept k8
  have g6_8 := g6_7.kept k8
  have t2_8 := t2.kept k8
  refine ops_q (v := .lit (.bool true)) (fs := []) rfl rfl rfl rfl ?_
  refine ops_q (v := .lit (.func (.func 11) #[] #[])) (fs := []) rfl rfl rfl rfl ?_
  refine ops_q (v := .ptr ba 0) (fs := []) rfl rfl rfl rfl ?_
  refine ops_q (v := .ptr bb 0) (fs := []) rfl rfl rfl rfl ?_
  refine ops_bsl (k := 2) (cs := [.ptr ba 0, .ptr bb 0]) rfl rfl (by simp only <;> rfl) rfl rfl (fun H9 g9 k9 n9 => ?_)
  have sa_9 := sa_8.kept k9
  have ia_9 := ia_8.kept k9
  have sb_9 := sb_8.kept k9
  have ib_9 := ib_8.kept k9
  have sc_9 := sc_8.kept k9
  have ic_9 := ic_8.kept k9
  have g4_9 := g4_8.kept k9
  have t1_9 := t1_8.kept k9
  have g6_9 := g6_8.kept k9
  have t2_9 := t2_8.kept k9
  have hl3 : ∀ k r, [allR a, allR b][k]? = some r → ∃ v, [(.ptr ba 0 : SV), (.ptr bb 0 : SV)][k]? = some v ∧ SeenV H9 v r := fun k r hr => by
    match k, hr with
    | 0, rfl => exact ⟨.ptr ba 0, rfl, .inl ⟨ba, Ma, rfl, sa_9⟩⟩
    | 1, rfl => exact ⟨.ptr bb 0, rfl, .inl ⟨bb, Mb, rfl, sb_9⟩⟩
  have hd3 : ∀ r ∈ [allR a, allR b], r.length ≤ 1000000 ∧ Asc r ∧ Good r := fun r hr => by
    simp only [List.mem_cons, List.not_mem_nil, or_false] at hr
    rcases hr with rfl | rfl
    · exact ⟨zba, sa_9.asc, sa_9.good⟩
    · exact ⟨zbb, sb_9.asc, sb_9.good⟩
  refine ops_c (f := 7) (args := [.slice H8.next 0 2 2]) rfl rfl rfl (clone_body Tryz.func7 rfl) rfl rfl ?_
  refine (stable_runs Γ H9 (.slice H8.next 0 2 2) [allR a, allR b] (show 2 ≤ 1000000 from by decide) (fun r hr => (hd3 r hr).1) (fun r hr => (hd3 r hr).2) (vs_built g9 hl3)).mono ?_
  rintro ⟨ex10, fr10, H10, v10⟩ ⟨p3, m3, hv10, t3, k10⟩
  have hv10 : v10 = .ptr p3 0 := hv10
  subst hv10
  have k10 : Kept H9.next H9 H10 := k10
  have t3 : SeenAt H10 p3 m3 (stable [allR a, allR b]) := t3
  have zp3 : (stable [allR a, allR b]).length ≤ 1000000 := stable_len _ (fun r hr => (hd3 r hr).1)
  have sa_10 := sa_9.kept k10
  have ia_10 := ia_9.kept k10
  have sb_10 := sb_9.kept k10
  have ib_10 := ib_9.kept k10
  have sc_10 := sc_9.kept k10
  have ic_10 := ic_9.kept k10
  have g4_10 := g4_9.kept k10
  have t1_10 := t1_9.kept k10
  have g6_10 := g6_9.kept k10
  have t2_10 := t2_9.kept k10
  have g9_10 := g9.kept k10
  refine ops_q (v := .ptr bc 0) (fs := []) rfl rfl rfl rfl ?_
  refine ops_bsl (k := 2) (cs := [.ptr p3 0, .ptr bc 0]) rfl rfl (by simp only <;> rfl) rfl rfl (fun H11 g11 k11 n11 => ?_)
  have sa_11 := sa_10.kept k11
  have ia_11 := ia_10.kept k11
  have sb_11 := sb_10.kept k11
  have ib_11 := ib_10.kept k11
  have sc_11 := sc_10.kept k11
  have ic_11 := ic_10.kept k11
  have g4_11 := g4_10.kept k11
  have t1_11 := t1_10.kept k11
  have g6_11 := g6_10.kept k11
  have t2_11 := t2_10.kept k11
  have g9_11 := g9_10.kept k11
  have t3_11 := t3.kept k11
  have hl4 : ∀ k r, [stable [allR a, allR b], allR c][k]? = some r → ∃ v, [(.ptr p3 0 : SV), (.ptr bc 0 : SV)][k]? = some v ∧ SeenV H11 v r := fun k r hr => by
    match k, hr with
    | 0, rfl => exact ⟨.ptr p3 0, rfl, .inl ⟨p3, m3, rfl, t3_11⟩⟩
    | 1, rfl => exact ⟨.ptr bc 0, rfl, .inl ⟨bc, Mc, rfl, sc_11⟩⟩
  have hd4 : ∀ r ∈ [stable [allR a, allR b], allR c], r.length ≤ 1000000 ∧ Asc r ∧ Good r := fun r hr => by
    simp only [List.mem_cons, List.not_mem_nil, or_false] at hr
    rcases hr with rfl | rfl
    · exact ⟨zp3, t3_11.asc, t3_11.good⟩
    · exact ⟨zbc, sc_11.asc, sc_11.good⟩
  refine ops_c (f := 7) (args := [.slice H10.next 0 2 2]) rfl rfl rfl (clone_body Tryz.func7 rfl) rfl rfl ?_
  refine (stable_runs Γ H11 (.slice H10.next 0 2 2) [stable [allR a, allR b], allR c] (show 2 ≤ 1000000 from by decide) (fun r hr => (hd4 r hr).1) (fun r hr => (hd4 r hr).2) (vs_built g11 hl4)).mono ?_
  rintro ⟨ex12, fr12, H12, v12⟩ ⟨p4, m4, hv12, t4, k12⟩
  have hv12 : v12 = .ptr p4 0 := hv12
  subst hv12
  have k12 : Kept H11.next H11 H12 := k12
  have t4 : SeenAt H12 p4 m4 (stable [stable [allR a, allR b], allR c]) := t4
  have zp4 : (stable [stable [allR a, allR b], allR c]).length ≤ 1000000 := stable_len _ (fun r hr => (hd4 r hr).1)
  have sa_12 := sa_11.kept k12
  have ia_12 := ia_11.kept k12
  have sb_12 := sb_11.kept k12
  have ib_12 := ib_11.kept k12
  have sc_12 := sc_11.kept k12
  have ic_12 := ic_11.kept k12
  have g4_12 := g4_11.kept k12
  have t1_12 := t1_11.kept k12
  have g6_12 := g6_11.kept k12
  have t2_12 := t2_11.kept k12
  have g9_12 := g9_11.kept k12
  have t3_12 := t3_11.kept k12
  have g11_12 := g11.kept k12
  refine ops_q (v := .ptr ba 0) (fs := []) rfl rfl rfl rfl ?_
  refine ops_q (v := .ptr bb 0) (fs := []) rfl rfl rfl rfl ?_
  refine ops_q (v := .ptr bc 0) (fs := []) rfl rfl rfl rfl ?_
  refine ops_bsl (k := 3) (cs := [.ptr ba 0, .ptr bb 0, .ptr bc 0]) rfl rfl (by simp only <;> rfl) rfl rfl (fun H13 g13 k13 n13 => ?_)
  have sa_13 := sa_12.kept k13
  have ia_13 := ia_12.kept k13
  have sb_13 := sb_12.kept k13
  have ib_13 := ib_12.kept k13
  have sc_13 := sc_12.kept k13
  have ic_13 := ic_12.kept k13
  have g4_13 := g4_12.kept k13
  have t1_13 := t1_12.kept k13
  have g6_13 := g6_12.kept k13
  have t2_13 := t2_12.kept k13
  have g9_13 := g9_12.kept k13
  have t3_13 := t3_12.kept k13
  have g11_13 := g11_12.kept k13
  have t4_13 := t4.kept k13
  have hl5 : ∀ k r, [allR a, allR b, allR c][k]? = some r → ∃ v, [(.ptr ba 0 : SV), (.ptr bb 0 : SV), (.ptr bc 0 : SV)][k]? = some v ∧ SeenV H13 v r := fun k r hr => by
    match k, hr with
    | 0, rfl => exact ⟨.ptr ba 0, rfl, .inl ⟨ba, Ma, rfl, sa_13⟩⟩
    | 1, rfl => exact ⟨.ptr bb 0, rfl, .inl ⟨bb, Mb, rfl, sb_13⟩⟩
    | 2, rfl => exact ⟨.ptr bc 0, rfl, .inl ⟨bc, Mc, rfl, sc_13⟩⟩
  have hd5 : ∀ r ∈ [allR a, allR b, allR c], r.length ≤ 1000000 ∧ Asc r ∧ Good r := fun r hr => by
    simp only [List.mem_cons, List.not_mem_nil, or_false] at hr
    rcases hr with rfl | rfl | rfl
    · exact ⟨zba, sa_13.asc, sa_13.good⟩
    · exact ⟨zbb, sb_13.asc, sb_13.good⟩
    · exact ⟨zbc, sc_13.asc, sc_13.good⟩
  refine ops_c (f := 7) (args := [.slice H12.next 0 3 3]) rfl rfl rfl (clone_body Tryz.func7 rfl) rfl rfl ?_
  refine (stable_runs Γ H13 (.slice H12.next 0 3 3) [allR a, allR b, allR c] (show 3 ≤ 1000000 from by decide) (fun r hr => (hd5 r hr).1) (fun r hr => (hd5 r hr).2) (vs_built g13 hl5)).mono ?_
  rintro ⟨ex14, fr14, H14, v14⟩ ⟨p5, m5, hv14, t5, k14⟩
  have hv14 : v14 = .ptr p5 0 := hv14
  subst hv14
  have k14 : Kept H13.next H13 H14 := k14
  have t5 : SeenAt H14 p5 m5 (stable [allR a, allR b, allR c]) := t5
  have zp5 : (stable [allR a, allR b, allR c]).length ≤ 1000000 := stable_len _ (fun r hr => (hd5 r hr).1)
  have sa_14 := sa_13.kept k14
  have ia_14 := ia_13.kept k14
  have sb_14 := sb_13.kept k14
  have ib_14 := ib_13.kept k14
  have sc_14 := sc_13.kept k14
  have ic_14 := ic_13.kept k14
  have g4_14 := g4_13.kept k14
  have t1_14 := t1_13.kept k14
  have g6_14 := g6_13.kept k14
  have t2_14 := t2_13.kept k14
  have g9_14 := g9_13.kept k14
  have t3_14 := t3_13.kept k14
  have g11_14 := g11_13.kept k14
  have t4_14 := t4_13.kept k14
  have g13_14 := g13.kept k14
  refine ops_c (f := 11) (args := [.ptr p4 0, .ptr p5 0]) rfl rfl (by simp only [calleeOf, ev_set] <;> rfl) (clone_body Tryz.func11 rfl) rfl rfl ?_
  refine (equal_runs Γ H14 p4 m4 p5 m5 (stable [stable [allR a, allR b], allR c]) zp4 t4_14 (hc2 ▸ t5)).mono ?_
  rintro ⟨ex15, fr15, H15, v15⟩ ⟨hv15, k15⟩
  have hv15 : v15 = .lit (.bool true) := hv15
  subst hv15
  have k15 : Kept H14.next H14 H15 := k15
  have sa_15 := sa_14.kept k15
  have ia_15 := ia_14.kept k15
  have sb_15 := sb_14.kept k15
  have ib_15 := ib_14.kept k15
  have sc_15 := sc_14.kept k15
  have ic_15 := ic_14.kept k15
  have g4_15 := g4_14.kept k15
  have t1_15 := t1_14.kept k15
  have g6_15 := g6_14.kept k15
  have t2_15 := t2_14.kept k15
  have g9_15 := g9_14.kept k15
  have t3_15 := t3_14.kept k15
  have g11_15 := g11_14.kept k15
  have t4_15 := t4_14.kept k15
  have g13_15 := g13_14.kept k15
  have t5_15 := t5.kept k15
  refine ops_q (v := .lit (.bool true)) (fs := []) rfl rfl rfl rfl ?_
  refine ops_q (v := .lit (.bool true)) (fs := []) rfl rfl rfl rfl ?_
  refine ops_q (v := .lit (.func (.func 11) #[] #[])) (fs := []) rfl rfl rfl rfl ?_
  refine ops_q (v := .ptr ba 0) (fs := []) rfl rfl rfl rfl ?_
  refine ops_q (v := .ptr ba 0) (fs := []) rfl rfl rfl rfl ?_
  refine ops_bsl (k := 2) (cs := [.ptr ba 0, .ptr ba 0]) rfl rfl (by simp only <;> rfl) rfl rfl (fun H16 g16 k16 n16 => ?_)
  have sa_16 := sa_15.kept k16
  have ia_16 := ia_15.kept k16
  have sb_16 := sb_15.kept k16
  have ib_16 := ib_15.kept k16
  have sc_16 := sc_15.kept k16
  have ic_16 := ic_15.kept k16
  have g4_16 := g4_15.kept k16
  have t1_16 := t1_15.kept k16
  have g6_16 := g6_15.kept k16
  have t2_16 := t2_15.kept k16
  have g9_16 := g9_15.kept k16
  have t3_16 := t3_15.kept k16
  have g11_16 := g11_15.kept k16
  have t4_16 := t4_15.kept k16
  have g13_16 := g13_15.kept k16
  have t5_16 := t5_15.kept k16
  have hl6 : ∀ k r, [allR a, allR a][k]? = some r → ∃ v, [(.ptr ba 0 : SV), (.ptr ba 0 : SV)][k]? = some v ∧ SeenV H16 v r := fun k r hr => by
    match k, hr with
    | 0, rfl => exact ⟨.ptr ba 0, rfl, .inl ⟨ba, Ma, rfl, sa_16⟩⟩
    | 1, rfl => exact ⟨.ptr ba 0, rfl, .inl ⟨ba, Ma, rfl, sa_16⟩⟩
  have hd6 : ∀ r ∈ [allR a, allR a], r.length ≤ 1000000 ∧ Asc r ∧ Good r := fun r hr => by
    simp only [List.mem_cons, List.not_mem_nil, or_false] at hr
    rcases hr with rfl | rfl
    · exact ⟨zba, sa_16.asc, sa_16.good⟩
    · exact ⟨zba, sa_16.asc, sa_16.good⟩
  refine ops_c (f := 7) (args := [.slice H15.next 0 2 2]) rfl rfl rfl (clone_body Tryz.func7 rfl) rfl rfl ?_
  refine (stable_runs Γ H16 (.slice H15.next 0 2 2) [allR a, allR a] (show 2 ≤ 1000000 from by decide) (fun r hr => (hd6 r hr).1) (fun r hr => (hd6 r hr).2) (vs_built g16 hl6)).mono ?_
  rintro ⟨ex17, fr17, H17, v17⟩ ⟨p6, m6, hv17, t6, k17⟩
  have hv17 : v17 = .ptr p6 0 := hv17
  subst hv17
  have k17 : Kept H16.next H16 H17 := k17
  have t6 : SeenAt H17 p6 m6 (stable [allR a, allR a]) := t6
  have zp6 : (stable [allR a, allR a]).length ≤ 1000000 := stable_len _ (fun r hr => (hd6 r hr).1)
  have sa_17 := sa_16.kept k17
  have ia_17 := ia_16.kept k17
  have sb_17 := sb_16.kept k17
  have ib_17 := ib_16.kept k17
  have sc_17 := sc_16.kept k17
  have ic_17 := ic_16.kept k17
  have g4_17 := g4_16.kept k17
  have t1_17 := t1_16.kept k17
  have g6_17 := g6_16.kept k17
  have t2_17 := t2_16.kept k17
  have g9_17 := g9_16.kept k17
  have t3_17 := t3_16.kept k17
  have g11_17 := g11_16.kept k17
  have t4_17 := t4_16.kept k17
  have g13_17 := g13_16.kept k17
  have t5_17 := t5_16.kept k17
  have g16_17 := g16.kept k17
  refine ops_q (v := .ptr ba 0) (fs := []) rfl rfl rfl rfl ?_
  refine ops_c (f := 11) (args := [.ptr p6 0, .ptr ba 0]) rfl rfl (by simp only [calleeOf, ev_set] <;> rfl) (clone_body Tryz.func11 rfl) rfl rfl ?_
  refine (equal_runs Γ H17 p6 m6 ba Ma (stable [allR a, allR a]) zp6 t6 (hc3 ▸ sa_17)).mono ?_
  rintro ⟨ex18, fr18, H18, v18⟩ ⟨hv18, k18⟩
  have hv18 : v18 = .lit (.bool true) := hv18
  subst hv18
  have k18 : Kept H17.next H17 H18 := k18
  have sa_18 := sa_17.kept k18
  have ia_18 := ia_17.kept k18
  have sb_18 := sb_17.kept k18
  have ib_18 := ib_17.kept k18
  have sc_18 := sc_17.kept k18
  have ic_18 := ic_17.kept k18
  have g4_18 := g4_17.kept k18
  have t1_18 := t1_17.kept k18
  have g6_18 := g6_17.kept k18
  have t2_18 := t2_17.kept k18
  have g9_18 := g9_17.kept k18
  have t3_18 := t3_17.kept k18
  have g11_18 := g11_17.kept k18
  have t4_18 := t4_17.kept k18
  have g13_18 := g13_17.kept k18
  have t5_18 := t5_17.kept k18
  have g16_18 := g16_17.kept k18
  have t6_18 := t6.kept k18
  refine ops_q (v := .lit (.bool true)) (fs := []) rfl rfl rfl rfl ?_
  refine ops_q (v := .lit (.bool true)) (fs := []) rfl rfl rfl rfl ?_
  refine ops_q (v := .ptr ba 0) (fs := []) rfl rfl rfl rfl ?_
  refine ops_q (v := la) (fs := []) rfl rfl rfl rfl ?_
  refine ops_c (f := 8) (args := [.ptr ba 0, la]) rfl rfl rfl (clone_body Tryz.func8 rfl) rfl rfl ?_
  refine (same_runs Γ H18 ba Ma _ la (allR a) zba sa_18 ia_18).mono ?_
  rintro ⟨ex19, fr19, H19, v19⟩ ⟨hv19, k19⟩
  have hv19 : v19 = .lit (.int .i64 1) := hv19
  subst hv19
  have k19 : Kept H18.next H18 H19 := k19
  have sa_19 := sa_18.kept k19
  have ia_19 := ia_18.kept k19
  have sb_19 := sb_18.kept k19
  have ib_19 := ib_18.kept k19
  have sc_19 := sc_18.kept k19
  have ic_19 := ic_18.kept k19
  have g4_19 := g4_18.kept k19
  have t1_19 := t1_18.kept k19
  have g6_19 := g6_18.kept k19
  have t2_19 := t2_18.kept k19
  have g9_19 := g9_18.kept k19
  have t3_19 := t3_18.kept k19
  have g11_19 := g11_18.kept k19
  have t4_19 := t4_18.kept k19
  have g13_19 := g13_18.kept k19
  have t5_19 := t5_18.kept k19
  have g16_19 := g16_18.kept k19
  have t6_19 := t6_18.kept k19
  refine ops_q (v := .lit (.bool true)) (fs := []) rfl rfl rfl rfl ?_
  refine ops_q (v := .lit (.bool true)) (fs := []) rfl rfl rfl rfl ?_
  refine ops_q (v := .lit (.bool true)) (fs := []) rfl rfl rfl rfl ?_
  refine ops_nil ?_
  refine runs_ret ?_
  exact ⟨_, rfl, rfl⟩
end Go.Proofs.YtjilmneaeocimaaGreatDoor.snap
