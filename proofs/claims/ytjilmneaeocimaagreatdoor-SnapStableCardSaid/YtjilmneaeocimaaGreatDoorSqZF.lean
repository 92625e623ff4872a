/-
  THE LAW SnapStable TELLS TRUE: its second loop, and the whole; by the author of this claim, in the calculus of runs. | THE LAW SnapStable TELLS TRUE, whole; by the author of this claim, in the calculus of runs.
-/
import Derived.Test.YtjilmneaeocimaaGreatDoorSqZD
namespace Go.Proofs.YtjilmneaeocimaaGreatDoor.snap
open Go Go.Proofs.YtjilmneaeocimaaGreatDoor.Ev

theorem stable_asc {rs : List (List (Int × Int))} (h : ∀ r ∈ rs, Asc r) : Asc (stable rs) := by
  cases rs with
  | nil => exact List.Pairwise.nil
  | cons r rs => exact fold_asc rs r (h r (List.mem_cons_self ..)) fun s hs => h s (List.mem_cons_of_mem _ hs)
theorem stable_good {rs : List (List (Int × Int))} (h : ∀ r ∈ rs, Good r) : Good (stable rs) := by
  cases rs with
  | nil => exact fun p hp => by cases hp
  | cons r rs => exact fold_good rs r (h r (List.mem_cons_self ..)) fun s hs => h s (List.mem_cons_of_mem _ hs)
theorem stable_le {rs : List (List (Int × Int))} (h : ∀ r ∈ rs, Asc r ∧ Good r) {r : List (Int × Int)} (hr : r ∈ rs) (a : Int) : val (stable rs) a ≤ val r a := by
  cases rs with
  | nil => cases hr
  | cons q rs =>
    have hv : val (stable (q :: rs)) a = least rs a (val q a) := fold_val rs q a (h q (List.mem_cons_self ..)).1 (h q (List.mem_cons_self ..)).2 fun s hs => h s (List.mem_cons_of_mem _ hs)
    rw [hv]
    rcases List.mem_cons.1 hr with rfl | hr
    · exact (least_le rs a _).1
    · exact (least_le rs a _).2 r hr
/-- Each one covers what all have seen. -/
theorem stable_covers {rs : List (List (Int × Int))} (h : ∀ r ∈ rs, Asc r ∧ Good r) {r : List (Int × Int)} (hr : r ∈ rs) : covers r (stable rs) = true := by
  have hA := stable_asc fun r hr => (h r hr).1
  have hG := stable_good fun r hr => (h r hr).2
  rw [covers, List.all_eq_true]
  intro p hp
  have hm := (hG p hp).1
  have hv : val (stable rs) p.1 = p.2 := val_mem hA.nodup hp
  have hle := stable_le h hr p.1
  rw [has, Bool.and_eq_true]
  exact ⟨decide_eq_true hm, decide_eq_true (by omega)⟩
theorem minR_nil (q : List (Int × Int)) : minR q [] = [] := rfl
theorem stable_none (rs : List (List (Int × Int))) : stable (rs ++ [[]]) = [] := by
  cases rs with
  | nil => rfl
  | cons r rs =>
    show (rs ++ [[]]).foldl minR r = []
    rw [List.foldl_append]
    rfl
theorem seenIdx {bl n k : Nat} (h : k < n) : indexAddrQ Tryz.prog 24 (.row bl 0 n n bl) (.lit (.int .i64 (Int.ofNat k))) = some (.ptr bl k) := by
  simp only [indexAddrQ, tySeens, szPtr, idxQ]
  rw [show Nat.blt k n = true from Nat.ble_eq_true_of_le h, cond_true]
  simp only [Nat.zero_add, Nat.mul_one]
theorem Ps.len {h : Hp} {lo : Nat} {v : SV} {ps : List SV} {rs : List (List (Int × Int))} (s : Ps h lo v ps rs) (h' : Hp) : lenQ Tryz.prog h' 24 v = some (.lit (.int .i64 (Int.ofNat rs.length)), []) := by
  rw [← s.2.1]
  rcases s.1 with ⟨rfl, rfl⟩ | ⟨bl, rfl, _⟩
  · exact nilSeens h' none 0
  · simp only [lenQ, tySeens]; rfl
theorem Ps.at {h : Hp} {lo : Nat} {v : SV} {ps : List SV} {rs : List (List (Int × Int))} {k : Nat} {r : List (Int × Int)} (s : Ps h lo v ps rs) (hk : rs[k]? = some r) : ∃ bl b M, v = .row bl 0 rs.length rs.length bl ∧ At h bl (.row ps 26 ps.length bl 1) ∧ ps[k]? = some (.ptr b 0) ∧ SeenAt h b M r := by
  obtain ⟨b, M, h1, h2⟩ := s.2.2 k r hk
  rcases s.1 with ⟨_, e⟩ | ⟨bl, s1, _, s3⟩
  · rw [e] at h1
    cases h1
  · exact ⟨bl, b, M, by rw [← s.2.1]; exact s1, s3, h1, h2⟩
set_option maxHeartbeats 8000000 in
set_option maxRecDepth 20000 in
/-- A round of the second loop. -/
theorem lc_body (Γ : Glob) (lo k b M : Nat) (pv : SV) (ps : List SV) (rs : List (List (Int × Int))) (hag : ∀ r ∈ rs, Asc r ∧ Good r) (hsl : (stable rs).length ≤ 1000000) (r : List (Int × Int)) (tm : T SV) (h : Hp) (e9 : Fr.ev ⟨tm, 74, []⟩ (.tmp 9) = .ptr b 0) (e52 : Fr.ev ⟨tm, 74, []⟩ (.tmp 52) = pv) (e54 : Fr.ev ⟨tm, 74, []⟩ (.tmp 54) = .lit (.int .i64 (Int.ofNat k))) (hP : Ps h lo pv ps rs) (hs : SeenAt h b M (stable rs)) (hk : rs[k]? = some r) :
    Runs Tryz.prog Γ (.code lcB none ⟨tm, 74, []⟩ h) fun o => ∃ tm' h' v0, o = ⟨.normal, ⟨tm', 74, []⟩, h', v0⟩ ∧ (∀ t ∈ [3, 9, 52, 53, 54], Fr.ev ⟨tm', 74, []⟩ (.tmp t) = Fr.ev ⟨tm, 74, []⟩ (.tmp t)) ∧ Kept h.next h h' := by
  obtain ⟨bl, b', M', hpv, hbl, hpk, hr⟩ := hP.at hk
  have hkl : k < rs.length := (List.getElem?_eq_some_iff.1 hk).1
  have hcov := stable_covers hag (List.mem_of_getElem? hk)
  refine runs_seq ?_
  refine runs_region ?_
  refine ops_q (v := .ptr bl k) (fs := []) rfl (by simp only [quiet, e52, e54, hpv]; exact congrArg one (seenIdx hkl)) rfl rfl ?_
  refine ops_q (v := .ptr b' 0) (fs := [.cells bl k [.ptr b' 0]]) rfl (by simp only [quiet, ev_set]; exact load_row1 aggPtr hbl.get hpk) rfl rfl ?_
  refine ops_q (v := .ptr b' 0) (fs := []) rfl rfl rfl rfl ?_
  refine ops_nil ?_
  refine runs_seq ?_
  refine runs_region ?_
  refine ops_q (v := .ptr b' 0) (fs := []) rfl rfl rfl rfl ?_
  refine ops_q (v := .ptr b 0) (fs := []) rfl (by simp only [quiet, ev_set, e9] <;> rfl) rfl rfl ?_
  refine ops_c (f := 10) (args := [.ptr b' 0, .ptr b 0]) rfl rfl (by simp only [calleeOf, List.map_cons, List.map_nil, ev_set] <;> rfl) (clone_body Tryz.func10 rfl) rfl rfl ?_
  refine (covers_runs Γ h b' M' (.ptr b 0) r (stable rs) hsl hr (.inl ⟨b, M, rfl, hs⟩)).mono ?_
  rintro ⟨ex1, fr1, H1, v1⟩ ⟨hv1, k1⟩
  have hv1 : v1 = .lit (.bool (covers r (stable rs))) := hv1
  rw [hcov] at hv1
  subst hv1
  refine ops_q (v := .lit (.bool false)) (fs := []) rfl rfl rfl rfl ?_
  refine ops_nil ?_
  refine runs_cond false rfl (runs_skip ?_)
  exact ⟨_, _, _, rfl, slots5 (by simp only [ev_set] <;> rfl) (by simp only [ev_set] <;> rfl) (by simp only [ev_set] <;> rfl) (by simp only [ev_set] <;> rfl) (by simp only [ev_set] <;> rfl), k1⟩
set_option maxHeartbeats 8000000 in
set_option maxRecDepth 20000 in
/-- The second loop: all of them cover it. -/
theorem lc_loop (Γ : Glob) (lo b M : Nat) (pv : SV) (ps : List SV) (rs : List (List (Int × Int))) (hn : rs.length ≤ 1000000) (hag : ∀ r ∈ rs, Asc r ∧ Good r) (hsl : (stable rs).length ≤ 1000000) : ∀ (rem k : Nat), k + rem = rs.length → ∀ (tm : T SV) (h : Hp), Fr.ev ⟨tm, 74, []⟩ (.tmp 3) = pv → Fr.ev ⟨tm, 74, []⟩ (.tmp 9) = .ptr b 0 → Fr.ev ⟨tm, 74, []⟩ (.tmp 52) = pv → Fr.ev ⟨tm, 74, []⟩ (.tmp 53) = .lit (.int .i64 (Int.ofNat rs.length)) → Fr.ev ⟨tm, 74, []⟩ (.tmp 54) = .lit (.int .i64 (Int.ofNat k)) → Ps h lo pv ps rs → SeenAt h b M (stable rs) →
    Runs Tryz.prog Γ (.code lcLoop none ⟨tm, 74, []⟩ h) fun o => ∃ tm' h' v0, o = ⟨.exit 2, ⟨tm', 74, []⟩, h', v0⟩ ∧ Fr.ev ⟨tm', 74, []⟩ (.tmp 3) = pv ∧ Ps h' lo pv ps rs ∧ Kept h.next h h' := by
  intro rem
  induction rem with
  | zero =>
    intro k hk tm h e3 e9 e52 e53 e54 hP hs
    obtain rfl : k = rs.length := by omega
    refine runs_loop ?_
    refine runs_seq (runs_region ?_)
    refine ops_q (v := .lit (.bool false)) (fs := []) rfl (by simp only [quiet, e53, e54]; exact congrArg one (lssF (Int.lt_irrefl _))) rfl rfl ?_
    refine ops_nil ?_
    refine runs_seq (runs_cond false rfl (runs_exit ?_))
    exact ⟨_, _, _, rfl, by simp only [ev_set]; exact e3, hP, Kept.refl _ _⟩
  | succ rem ih =>
    intro k hk tm h e3 e9 e52 e53 e54 hP hs
    have hkl : k < rs.length := by omega
    have hd : rs[k]? = some rs[k] := List.getElem?_eq_getElem hkl
    generalize rs[k] = r at hd
    refine runs_loop ?_
    refine runs_seq (runs_region ?_)
    refine ops_q (v := .lit (.bool true)) (fs := []) rfl (by simp only [quiet, e53, e54]; exact congrArg one (lssT (Int.ofNat_lt.2 hkl))) rfl rfl ?_
    refine ops_nil ?_
    refine runs_seq (runs_cond true rfl (runs_skip ?_))
    refine runs_seq (runs_block ((lc_body Γ lo k b M pv ps rs hag hsl r _ h (by simp only [ev_set]; exact e9) (by simp only [ev_set]; exact e52) (by simp only [ev_set]; exact e54) hP hs hd).mono ?_))
    rintro o ⟨tm', h', v0, rfl, hsl', kk⟩
    rw [show ∀ fr hp v, atEnd 3 ⟨.normal, fr, hp, v⟩ = ⟨.normal, fr, hp, v⟩ from fun _ _ _ => rfl]
    have s3 := hsl' 3 (by decide)
    have s9 := hsl' 9 (by decide)
    have s52 := hsl' 52 (by decide)
    have s53 := hsl' 53 (by decide)
    have s54 := hsl' 54 (by decide)
    simp only [ev_set] at s3 s9 s52 s53 s54
    have s54 : Fr.ev ⟨tm', 74, []⟩ (.tmp 54) = .lit (.int .i64 (Int.ofNat k)) := s54.trans e54
    refine runs_region ?_
    refine ops_q (v := .lit (.int .i64 (Int.ofNat (k + 1)))) (fs := []) rfl (by simp only [quiet, s54]; exact congrArg one (addQ (c := Int.ofNat (k + 1)) rfl (by simp only [Int.ofNat_eq_natCast]; omega) (by simp only [Int.ofNat_eq_natCast]; omega))) rfl rfl ?_
    refine ops_q (v := .lit (.int .i64 (Int.ofNat (k + 1)))) (fs := []) rfl rfl rfl rfl ?_
    refine ops_nil ?_
    refine (ih (k + 1) (by omega) _ h' ?_ ?_ ?_ ?_ ?_ (hP.kept kk) (hs.kept kk)).mono ?_
    · simp only [ev_set]; exact s3.trans e3
    · simp only [ev_set]; exact s9.trans e9
    · simp only [ev_set]; exact s52.trans e52
    · simp only [ev_set]; exact s53.trans e53
    · simp only [ev_set]; rfl
    · rintro o ⟨tm2, h2, v2, rfl, q1, q2, q3⟩
      exact ⟨_, _, _, rfl, q1, q2, kk.then q3⟩
end Go.Proofs.YtjilmneaeocimaaGreatDoor.snap
namespace Go.Proofs.YtjilmneaeocimaaGreatDoor.snap
open Go Go.Proofs.YtjilmneaeocimaaGreatDoor.Ev

set_option maxHeartbeats 8000000 in
set_option maxRecDepth 20000 in
/-- **The law tells true.** -/
theorem stab_runs (Γ : Glob) (h : Hp) (L : SV) (idss : List (List (Int × Int))) (hL : OL Γ L idss) : Runs Tryz.prog Γ (.call 3 [L] h) fun r => r.v = .lit (.bool true) := by
  by_cases hlong : 10 < idss.length
  case pos =>
    refine runs_call Tryz.func3 rfl ?_
    refine runs_seq ?_
    refine runs_region ?_
    refine ops_q (v := .lit (.bool false)) (fs := []) rfl rfl rfl rfl ?_
    refine ops_nil ?_
    refine runs_seq (runs_seq ?_)
    refine runs_region ?_
    refine ops_c (f := 5) (args := []) rfl rfl rfl (clone_body Tryz.func5 rfl) rfl rfl (told_awake fun fr => ?_)
    refine ops_q (v := .lit (.bool false)) (fs := []) rfl rfl rfl rfl ?_
    refine ops_nil ?_
    refine runs_cond false rfl (runs_skip ?_)
    refine runs_seq (runs_seq ?_)
    refine runs_region ?_
    refine ops_q (v := L) (fs := []) rfl rfl rfl rfl ?_
    refine ops_q (v := .lit (.int .i64 (Int.ofNat idss.length))) (fs := []) rfl (hL.1 _) rfl rfl ?_
    refine ops_q (v := .lit (.bool true)) (fs := []) rfl (by simp only [quiet, ev_set]; exact congrArg one (gtrT (a := Int.ofNat idss.length) (b := 10) (by simp only [Int.ofNat_eq_natCast]; omega))) rfl rfl ?_
    refine ops_nil ?_
    refine runs_cond true rfl ?_
    refine runs_seq ?_
    refine runs_region ?_
    refine ops_q (v := .lit (.bool true)) (fs := []) rfl rfl rfl rfl ?_
    refine ops_nil ?_
    refine runs_ret ?_
    exact ⟨_, rfl, rfl⟩
  refine runs_call Tryz.func3 rfl ?_
  refine runs_seq ?_
  refine runs_region ?_
  refine ops_q (v := .lit (.bool false)) (fs := []) rfl rfl rfl rfl ?_
  refine ops_nil ?_
  refine runs_seq (runs_seq ?_)
  refine runs_region ?_
  refine ops_c (f := 5) (args := []) rfl rfl rfl (clone_body Tryz.func5 rfl) rfl rfl (told_awake fun fr => ?_)
  refine ops_q (v := .lit (.bool false)) (fs := []) rfl rfl rfl rfl ?_
  refine ops_nil ?_
  refine runs_cond false rfl (runs_skip ?_)
  refine runs_seq (runs_seq ?_)
  refine runs_region ?_
  refine ops_q (v := L) (fs := []) rfl rfl rfl rfl ?_
  refine ops_q (v := .lit (.int .i64 (Int.ofNat idss.length))) (fs := []) rfl (hL.1 _) rfl rfl ?_
  refine ops_q (v := .lit (.bool false)) (fs := []) rfl (by simp only [quiet, ev_set]; exact congrArg one (gtrF (a := Int.ofNat idss.length) (b := 10) (by simp only [Int.ofNat_eq_natCast]; omega))) rfl rfl ?_
  refine ops_nil ?_
  refine runs_cond false rfl (runs_skip ?_)
  refine runs_seq (runs_region ?_)
  refine ops_q (v := .lit (.slice none 0 0)) (fs := []) rfl rfl rfl rfl ?_
  refine ops_nil ?_
  refine runs_seq (runs_region ?_)
  refine ops_q (v := .lit (.slice none 0 0)) (fs := []) rfl rfl rfl rfl ?_
  refine ops_nil ?_
  refine runs_seq (runs_seq (runs_region ?_))
  refine ops_q (v := L) (fs := []) rfl rfl rfl rfl ?_
  refine ops_q (v := .lit (.int .i64 (Int.ofNat idss.length))) (fs := []) rfl (hL.1 _) rfl rfl ?_
  refine ops_q (v := .lit (.int .i64 (Int.ofNat 0))) (fs := []) rfl rfl rfl rfl ?_
  refine ops_nil ?_
  refine runs_block ((ls_loop Γ h.next L idss (by omega) hL idss.length 0 (Nat.zero_add _) _ h (.lit (.slice none 0 0)) (.lit (.slice none 0 0)) [] [] rfl rfl rfl rfl rfl ⟨.inl ⟨rfl, rfl⟩, rfl, fun k r hr => by simp at hr⟩ ⟨.inl ⟨rfl, rfl⟩, rfl, fun k r hr => by simp at hr⟩ (fun x hx => by simp at hx) (Nat.le_refl _)).mono ?_)
  rintro o (⟨tm1, h1, v0, rfl, e2⟩ | ⟨tm1, h1, v0, pv, lv, ps, ls, rfl, q3, q4, hP, hQ, h50, hn1⟩)
  · rw [show ∀ fr hp v, atEnd 0 ⟨.ret, fr, hp, v⟩ = ⟨.ret, fr, hp, v⟩ from fun _ _ _ => rfl]
    exact ⟨_, leave_marks (t := 2) rfl rfl e2, rfl⟩
  rw [show ∀ fr hp v, atEnd 0 ⟨.exit 0, fr, hp, v⟩ = ⟨.normal, fr, hp, v⟩ from fun _ _ _ => rfl]
  have hten : (idss.map allR).length ≤ 10 := by
    rw [List.length_map]
    omega
  have hag : ∀ r ∈ idss.map allR, Asc r ∧ Good r ∧ r.length ≤ 1000000 := fun r hr => by
    obtain ⟨x, hx, rfl⟩ := List.mem_map.1 hr
    exact ⟨allR_asc x, allR_good x, Nat.le_trans (allR_len x) (Nat.le_trans (h50 x hx) (by decide))⟩
  generalize idss.map allR = rs at hP hQ hten hag
  have hlen : rs.length ≤ 1000000 := Nat.le_trans hten (by decide)
  have hag2 : ∀ r ∈ rs, Asc r ∧ Good r := fun r hr => ⟨(hag r hr).1, (hag r hr).2.1⟩
  have hag3 : ∀ r ∈ rs, r.length ≤ 1000000 := fun r hr => (hag r hr).2.2
  have hsl := stable_len rs hag3
  refine runs_seq (runs_region ?_)
  refine ops_q (v := pv) (fs := []) rfl (by simp only [quiet, q3] <;> rfl) rfl rfl ?_
  refine ops_c (f := 7) (args := [pv]) rfl rfl (by simp only [calleeOf, List.map_cons, List.map_nil, ev_set] <;> rfl) (clone_body Tryz.func7 rfl) rfl rfl ?_
  refine (stable_runs Γ h1 pv rs hlen hag3 hag2 hP.vs).mono ?_
  rintro ⟨ex2, fr2, H2, v2⟩ ⟨b, M, hv2, hS, k2⟩
  have hv2 : v2 = .ptr b 0 := hv2
  subst hv2
  have k2 : Kept h1.next h1 H2 := k2
  have hS : SeenAt H2 b M (stable rs) := hS
  have hP2 := hP.kept k2
  have hQ2 := hQ.kept k2
  refine ops_q (v := .ptr b 0) (fs := []) rfl rfl rfl rfl ?_
  refine ops_nil ?_
  refine runs_seq (runs_seq (runs_region ?_))
  refine ops_q (v := .ptr b 0) (fs := []) rfl rfl rfl rfl ?_
  refine ops_q (v := .lit (.bool false)) (fs := []) rfl rfl rfl rfl ?_
  refine ops_q (v := .lit (.bool false)) (fs := []) rfl rfl rfl rfl ?_
  refine ops_q (v := .ptr b 0) (fs := []) rfl rfl rfl rfl ?_
  refine ops_q (v := lv) (fs := []) rfl (by simp only [quiet, ev_set, q4] <;> rfl) rfl rfl ?_
  refine ops_c (f := 9) (args := [lv]) rfl rfl (by simp only [calleeOf, List.map_cons, List.map_nil, ev_set] <;> rfl) (clone_body Tryz.func9 rfl) rfl rfl ?_
  refine (rstable_runs Γ H2 _ lv ls rs hlen hag hQ2).mono ?_
  rintro ⟨ex3, fr3, H3, v3⟩ ⟨u, hv3, hI, k3⟩
  have hv3 : v3 = u := hv3
  subst hv3
  have k3 : Kept H2.next H2 H3 := k3
  have hI : IdR H3 H2.next v3 (stable rs) := hI
  have hP3 := hP2.kept k3
  have hS3 := hS.kept k3
  refine ops_c (f := 8) (args := [.ptr b 0, v3]) rfl rfl (by simp only [calleeOf, List.map_cons, List.map_nil, ev_set] <;> rfl) (clone_body Tryz.func8 rfl) rfl rfl ?_
  refine (same_runs Γ H3 b M _ v3 (stable rs) hsl hS3 hI).mono ?_
  rintro ⟨ex4, fr4, H4, v4⟩ ⟨hv4, k4⟩
  have hv4 : v4 = .lit (.int .i64 1) := hv4
  subst hv4
  have k4 : Kept H3.next H3 H4 := k4
  have hP4 := hP3.kept k4
  have hS4 := hS3.kept k4
  refine ops_q (v := .lit (.bool false)) (fs := []) rfl rfl rfl rfl ?_
  refine ops_q (v := .lit (.bool false)) (fs := []) rfl rfl rfl rfl ?_
  refine ops_nil ?_
  refine runs_cond false rfl (runs_skip ?_)
  refine runs_seq (runs_seq (runs_region ?_))
  refine ops_q (v := pv) (fs := []) rfl (by simp only [quiet, ev_set, q3] <;> rfl) rfl rfl ?_
  refine ops_q (v := .lit (.int .i64 (Int.ofNat rs.length))) (fs := []) rfl (by simp only [quiet]; exact hP4.len _) rfl rfl ?_
  refine ops_q (v := .lit (.int .i64 (Int.ofNat 0))) (fs := []) rfl rfl rfl rfl ?_
  refine ops_nil ?_
  refine runs_block ((lc_loop Γ h.next b M pv ps rs hlen hag2 hsl rs.length 0 (Nat.zero_add _) _ H4 ?_ ?_ ?_ ?_ ?_ hP4 hS4).mono ?_)
  · simp only [ev_set]; exact q3
  · simp only [ev_set] <;> rfl
  · simp only [ev_set] <;> rfl
  · simp only [ev_set] <;> rfl
  · simp only [ev_set] <;> rfl
  rintro o ⟨tm5, h5, v5, rfl, q5, hP5, k5⟩
  rw [show ∀ fr hp v, atEnd 2 ⟨.exit 2, fr, hp, v⟩ = ⟨.normal, fr, hp, v⟩ from fun _ _ _ => rfl]
  have hlo5 : h.next ≤ h5.next := by
    have := k2.next
    have := k3.next
    have := k4.next
    have := k5.next
    omega
  have hpl : ps.length ≤ 1000000 := by
    rw [hP5.2.1]
    exact hlen
  refine runs_seq (runs_region ?_)
  refine ops_q (v := pv) (fs := []) rfl (by simp only [quiet, q5] <;> rfl) rfl rfl ?_
  refine ops_app1 (u := .lit (.pointer none)) (v := pv) (vs := ps) (lo := h.next) tySeens infoPtr rfl rfl rfl rfl rfl rfl rfl rfl rfl (by simp only [ev_set] <;> rfl) (by simp only [ev_set] <;> rfl) rfl rfl hP5.1 hpl hlo5 (fun pv2 H6 cp f6 => ?_)
  have f6 : Fe 26 h5 H6 := f6
  have hl6 : ∀ (k : Nat) r, (rs ++ [[]])[k]? = some r → ∃ u, (ps ++ [SV.lit (.pointer none)])[k]? = some u ∧ SeenV H6 u r := fun k r hr => by
    rcases get_snoc hr with ⟨hk, hr⟩ | ⟨rfl, rfl⟩
    · obtain ⟨b', M', g1, g2⟩ := hP5.2.2 k r hr
      exact ⟨_, by rw [List.getElem?_append_left (by rw [hP5.2.1]; exact hk)]; exact g1, .inl ⟨b', M', rfl, g2.fe f6⟩⟩
    · exact ⟨_, snoc_len _ hP5.2.1, .inr ⟨rfl, rfl⟩⟩
  have hl7 : (ps ++ [SV.lit (.pointer none)]).length = (rs ++ [[]]).length := by
    rw [List.length_append, List.length_append, hP5.2.1]
    rfl
  have hag6 : ∀ r ∈ rs ++ [[]], r.length ≤ 1000000 ∧ Asc r ∧ Good r := fun r hr => by
    rcases List.mem_append.1 hr with hr | hr
    · exact ⟨hag3 r hr, hag2 r hr⟩
    · rw [List.mem_singleton.1 hr]
      exact ⟨Nat.zero_le _, List.Pairwise.nil, fun p hp => by cases hp⟩
  refine ops_c (f := 7) (args := [pv2]) rfl rfl (by simp only [calleeOf, List.map_cons, List.map_nil, ev_set] <;> rfl) (clone_body Tryz.func7 rfl) rfl rfl ?_
  refine (stable_runs Γ H6 pv2 (rs ++ [[]]) (by rw [List.length_append]; exact Nat.le_trans (Nat.add_le_add_right hten 1) (by decide)) (fun r hr => (hag6 r hr).1) (fun r hr => (hag6 r hr).2) (vs_row cp hl7 hl6)).mono ?_
  rintro ⟨ex7, fr7, H7, v7⟩ ⟨p, m, hv7, hS7, k7⟩
  have hv7 : v7 = .ptr p 0 := hv7
  subst hv7
  have hS7 : SeenAt H7 p m (stable (rs ++ [[]])) := hS7
  rw [stable_none] at hS7
  refine ops_q (v := .ptr p 0) (fs := []) rfl rfl rfl rfl ?_
  refine ops_nil ?_
  refine runs_seq (runs_region ?_)
  refine ops_q (v := .ptr p 0) (fs := []) rfl rfl rfl rfl ?_
  refine ops_q (v := .lit (.bool true)) (fs := []) rfl rfl rfl rfl ?_
  refine ops_q (v := .lit (.bool true)) (fs := []) rfl rfl rfl rfl ?_
  refine ops_q (v := .ptr p 0) (fs := []) rfl rfl rfl rfl ?_
  refine ops_c (f := 8) (args := [.ptr p 0, .lit (.slice none 0 0)]) rfl rfl (by simp only [calleeOf, List.map_cons, List.map_nil, ev_set] <;> rfl) (clone_body Tryz.func8 rfl) rfl rfl ?_
  refine (same_runs Γ H7 p m 0 (.lit (.slice none 0 0)) [] (Nat.zero_le _) hS7 (.inl ⟨rfl, .inl rfl⟩)).mono ?_
  rintro ⟨ex8, fr8, H8, v8⟩ ⟨hv8, _⟩
  have hv8 : v8 = .lit (.int .i64 1) := hv8
  subst hv8
  refine ops_q (v := .lit (.bool true)) (fs := []) rfl rfl rfl rfl ?_
  refine ops_q (v := .lit (.bool true)) (fs := []) rfl rfl rfl rfl ?_
  refine ops_q (v := .lit (.bool true)) (fs := []) rfl rfl rfl rfl ?_
  refine ops_nil ?_
  refine runs_ret ?_
  exact ⟨_, leave_marks (t := 2) rfl rfl (by simp only [ev_set] <;> rfl), rfl⟩
end Go.Proofs.YtjilmneaeocimaaGreatDoor.snap
