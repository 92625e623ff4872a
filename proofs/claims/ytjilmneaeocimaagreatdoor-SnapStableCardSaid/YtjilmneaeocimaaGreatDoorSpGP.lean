/-
  'snap.Stable': its last loop, and the whole; by the author's gen_snap.py, in the calculus of runs.
-/
import Derived.Test.YtjilmneaeocimaaGreatDoorSpGM
namespace Go.Proofs.YtjilmneaeocimaaGreatDoor.snap
open Go Go.Proofs.YtjilmneaeocimaaGreatDoor.Ev

/-- The entry at a place. -/
def pairAt (l : List (Int × Int)) (j : Nat) : Int × Int := l.getD j (0, 0)
theorem perm_pairs {l : List (Int × Int)} {js : List Nat} (hn : js.Nodup) (hl : js.length = l.length) (hj : ∀ j ∈ js, j < l.length) : (js.map (pairAt l)).Perm l := by
  have hs : js.Perm (List.range l.length) := perm_range hn fun j => ⟨hj j, (pigeon l.length js hn hj).2 hl j⟩
  have : (List.range l.length).map (pairAt l) = l := by
    apply List.ext_getElem
    · simp
    · intro i h1 h2
      simp [pairAt, List.getD_eq_getElem?_getD, List.getElem?_eq_getElem h2]
  have h2 := hs.map (pairAt l)
  rw [this] at h2
  exact h2
theorem Marks.but {ms : List Nat} {lo M c0 : Nat} {h h' : Hp} {es : List (SV × SV × Nat)} (m : Marks ms lo h) (hM : At h M (.map es c0)) (k : ∀ c, c < h.next → c ≠ M → h'.objs.get c = h.objs.get c) (n : h.next ≤ h'.next) : Marks ms lo h' := ⟨m.1, fun D hD => ⟨(m.2 D hD).1, by
  have hd := (m.2 D hD).2
  refine ⟨Nat.lt_of_lt_of_le hd.lt n, (k D hd.lt ?_).trans hd.get⟩
  rintro rfl
  have := hd.get.symm.trans hM.get
  cases this⟩⟩
set_option maxHeartbeats 8000000 in
set_option maxRecDepth 20000 in
theorem out_loop (Γ : Glob) (Sb Sm Q I lo : Nat) (l : List (Int × Int)) (h64 : ∀ p ∈ l, Lim p.2) (hQS : Q ≠ Sm) (hIS : I ≠ Sm) (hIQ : I ≠ Q) (hSb : Sb ≠ I) (hSm : lo ≤ Sm) (hIl : lo ≤ I) : ∀ (rem : Nat) (js : List Nat), js.length + rem = l.length → js.Nodup → (∀ j ∈ js, j < l.length) → ∀ (tm : T SV) (h : Hp) (ms : List Nat),
    Fr.ev ⟨tm, 60, ms⟩ (.tmp 3) = .ptr Sb 0 → Fr.ev ⟨tm, 60, ms⟩ (.tmp 48) = .ptr I 0 → At h Q (.map (ent l 0) l.length) → At h I (.mapIter (some Q) l.length js l.length) → SeenAt h Sb Sm ((js.map (pairAt l)).foldl addR []) → Marks ms lo h →
    Runs Tryz.prog Γ (.code stOut none ⟨tm, 60, ms⟩ h) fun o => ∃ tm' h' v0, o = ⟨.exit 4, ⟨tm', 60, ms⟩, h', v0⟩ ∧ Fr.ev ⟨tm', 60, ms⟩ (.tmp 3) = .ptr Sb 0 ∧ (∃ π : List (Int × Int), π.Perm l ∧ SeenAt h' Sb Sm (π.foldl addR [])) ∧ Marks ms lo h' ∧ (∀ c, c < lo → h'.objs.get c = h.objs.get c) ∧ h.next ≤ h'.next := by
  intro rem
  induction rem with
  | zero =>
    intro js hjl hn hj tm h ms e3 e48 hQ hI hS hms
    have hd := left_none hn (by omega) hj
    refine runs_loop ?_
    refine runs_seq (runs_region ?_)
    refine ops_e (v := .tuple [.lit (.bool false)]) (hp' := h) rfl rfl rfl (by simp only [effect, e48]; exact next_done hI.get hQ.get hd) (Nat.le_refl _) rfl rfl ?_
    refine ops_q (v := .lit (.bool false)) (fs := []) rfl (by simp only [quiet, ev_set] <;> rfl) rfl rfl ?_
    refine ops_nil ?_
    refine runs_seq (runs_cond false rfl (runs_exit ?_))
    refine ⟨_, _, _, rfl, ?_, ⟨_, perm_pairs hn (by omega) hj, hS⟩, hms, fun _ _ => rfl, Nat.le_refl _⟩
    simp only [ev_set]; exact e3
  | succ rem ih =>
    intro js hjl hn hj tm h ms e3 e48 hQ hI hS hms
    have hd := left_has hn (by omega) hj
    refine runs_loop ?_
    refine runs_seq (runs_region ?_)
    refine ops_many rfl rfl rfl (by simp only [effect, e48]; exact next_more hI.get hQ.get hd) (fun r hr => by obtain ⟨e, _, rfl⟩ := List.mem_map.1 hr; exact Nat.le_refl _) rfl rfl ?_
    intro r hr
    obtain ⟨e, he, rfl⟩ := List.mem_map.1 hr
    obtain ⟨j, p, hp, rfl, hjn⟩ := left_mem he
    have hjlt := (List.getElem?_eq_some_iff.1 hp).1
    generalize hh1 : h.upd I (.mapIter (some Q) l.length (js ++ [j]) l.length) = h1
    have hn1 : h1.next = h.next := by rw [← hh1]; rfl
    have hg1 : ∀ b, b ≠ I → h1.objs.get b = h.objs.get b := fun b hb => by rw [← hh1]; exact get_ne hb
    have hI1 : At h1 I (.mapIter (some Q) l.length (js ++ [j]) l.length) := ⟨by rw [hn1]; exact hI.lt, by rw [← hh1]; exact get_same⟩
    have hQ1 : At h1 Q (.map (ent l 0) l.length) := ⟨by rw [hn1]; exact hQ.lt, (hg1 Q (Ne.symm hIQ)).trans hQ.get⟩
    have hS1 : SeenAt h1 Sb Sm ((js.map (pairAt l)).foldl addR []) := by rw [← hh1]; exact hS.setNe hSb (Ne.symm hIS)
    have hms1 : Marks ms lo h1 := ⟨hms.1, fun D hD => ⟨(hms.2 D hD).1, by
      have hd := (hms.2 D hD).2
      refine ⟨by rw [hn1]; exact hd.lt, (hg1 D ?_).trans hd.get⟩
      rintro rfl
      have := hd.get.symm.trans hI.get
      cases this⟩⟩
    have hmore : addR ((js.map (pairAt l)).foldl addR []) (p.1, p.2) = ((js ++ [j]).map (pairAt l)).foldl addR [] := by
      rw [List.map_append, List.foldl_append]
      simp [pairAt, List.getD_eq_getElem?_getD, hp]
    have hadd := add_runs Γ Sb Sm ((js.map (pairAt l)).foldl addR []) p.1 p.2 (h64 p (List.mem_of_getElem? hp)) h1 hS1
    obtain ⟨lm, hSm1, _⟩ := hS1.mp
    have hI2 := hI1.get
    have hQ2 := hQ1.get
    refine ops_q (v := .lit (.bool true)) (fs := []) rfl (by simp only [quiet, ev_set] <;> rfl) rfl rfl ?_
    refine ops_nil ?_
    refine runs_seq (runs_cond true rfl (runs_skip ?_))
    refine runs_block ?_
    refine runs_seq (runs_region ?_)
    refine ops_e (v := .tuple [.lit (.int .i64 p.1), .lit (.int .i64 p.2)]) (hp' := h1) rfl rfl rfl (by simp only [effect, ev_set, e48]; exact congrArg Ev.val (entry_at hI2 hQ2 hp)) (Nat.le_refl _) rfl rfl ?_
    refine ops_q (v := .lit (.int .i64 p.1)) (fs := []) rfl (by simp only [quiet, ev_set] <;> rfl) rfl rfl ?_
    refine ops_q (v := .lit (.int .i64 p.2)) (fs := []) rfl (by simp only [quiet, ev_set] <;> rfl) rfl rfl ?_
    refine ops_q (v := .lit (.int .i64 p.1)) (fs := []) rfl (by simp only [quiet, ev_set] <;> rfl) rfl rfl ?_
    refine ops_q (v := .lit (.int .i64 p.2)) (fs := []) rfl (by simp only [quiet, ev_set] <;> rfl) rfl rfl ?_
    refine ops_nil ?_
    refine runs_region ?_
    refine ops_q (v := .ptr Sb 0) (fs := []) rfl (by simp only [quiet, ev_set, e3] <;> rfl) rfl rfl ?_
    refine ops_q (v := .lit (.int .i64 p.1)) (fs := []) rfl (by simp only [quiet, ev_set] <;> rfl) rfl rfl ?_
    refine ops_q (v := .lit (.int .i64 p.2)) (fs := []) rfl (by simp only [quiet, ev_set] <;> rfl) rfl rfl ?_
    refine ops_q (v := .agg [.lit (.int .i64 p.1), .lit (.int .i64 p.2)]) (fs := []) rfl rfl rfl rfl ?_
    refine ops_c (f := 16) (args := [.ptr Sb 0, .agg [.lit (.int .i64 p.1), .lit (.int .i64 p.2)]]) rfl rfl rfl (clone_body Tryz.func16 rfl) rfl rfl ?_
    refine hadd.mono ?_
    rintro ⟨ex, fr, h2, v2⟩ ⟨hv2, hS2, hold2, hn2⟩
    have hS2 : SeenAt h2 Sb Sm (((js ++ [j]).map (pairAt l)).foldl addR []) := hmore ▸ hS2
    have hold2 : ∀ c, c < h1.next → c ≠ Sm → h2.objs.get c = h1.objs.get c := hold2
    have hn2 : h1.next ≤ h2.next := hn2
    have hI3 : At h2 I (.mapIter (some Q) l.length (js ++ [j]) l.length) := ⟨Nat.lt_of_lt_of_le hI1.lt hn2, (hold2 I hI1.lt hIS).trans hI1.get⟩
    have hQ3 : At h2 Q (.map (ent l 0) l.length) := ⟨Nat.lt_of_lt_of_le hQ1.lt hn2, (hold2 Q hQ1.lt hQS).trans hQ1.get⟩
    have hms2 : Marks ms lo h2 := hms1.but hSm1 hold2 hn2
    have hi1 := hI1.lt
    refine ops_nil ?_
    rw [show ∀ fr hp v, atEnd 5 ⟨.normal, fr, hp, v⟩ = ⟨.normal, fr, hp, v⟩ from fun _ _ _ => rfl]
    have hnd : (js ++ [j]).Nodup := by
      rw [List.nodup_append]
      exact ⟨hn, by simp, fun a ha b hb => by rintro rfl; rw [List.mem_singleton.1 hb] at ha; exact hjn ha⟩
    refine (ih (js ++ [j]) (by rw [List.length_append]; simp; omega) hnd (fun k hk => ?_) _ h2 ms ?_ ?_ hQ3 hI3 hS2 hms2).mono ?_
    · rcases List.mem_append.1 hk with hk | hk
      · exact hj k hk
      · rw [List.mem_singleton.1 hk]; exact hjlt
    · simp only [ev_set]; exact e3
    · simp only [ev_set]; exact e48
    · rintro o ⟨tm', h', v0, rfl, q1, q2, q3, q4, q5⟩
      exact ⟨tm', h', v0, rfl, q1, q2, q3, fun c hc => (q4 c hc).trans ((hold2 c (by omega) (by omega)).trans (hg1 c (by omega))), by omega⟩

set_option maxHeartbeats 8000000 in
set_option maxRecDepth 20000 in
/-- **What all of some have seen.** -/
theorem stable_runs (Γ : Glob) (h : Hp) (L : SV) (rs : List (List (Int × Int))) (hn : rs.length ≤ 1000000) (hrs : ∀ r ∈ rs, r.length ≤ 1000000) (hag : ∀ r ∈ rs, Asc r ∧ Good r) (hL : Vs Γ h.next h L rs) :
    Runs Tryz.prog Γ (.call 7 [L] h) fun o => ∃ b M, o.v = .ptr b 0 ∧ SeenAt o.hp b M (stable rs) ∧ Kept h.next h o.hp := by
  cases rs with
  | nil =>
    refine runs_call Tryz.func7 rfl ?_
    refine runs_seq ?_
    refine runs_region ?_
    refine ops_q (v := .lit (.pointer none)) (fs := []) rfl rfl rfl rfl ?_
    refine ops_nil ?_
    refine runs_seq ?_
    refine runs_region ?_
    refine ops_c (f := 15) (args := []) rfl rfl rfl (clone_body Tryz.func15 rfl) rfl rfl ?_
    refine (new_runs Γ h).mono ?_
    rintro ⟨ex1, fr1, H1, v1⟩ ⟨hv1, k1, g1⟩
    have hv1 : v1 = .ptr (h.next + 1) 0 := hv1
    subst hv1
    have k1 : Kept h.next h H1 := k1
    have g1 : SeenAt H1 (h.next + 1) h.next [] := g1
    refine ops_q (v := .ptr (h.next + 1) 0) (fs := []) rfl rfl rfl rfl ?_
    refine ops_nil ?_
    refine runs_seq ?_
    refine runs_seq ?_
    refine runs_region ?_
    refine ops_q (v := L) (fs := []) rfl rfl rfl rfl ?_
    refine ops_q (v := .lit (.int .i64 (Int.ofNat 0))) (fs := []) rfl (hL.1.1 _) rfl rfl ?_
    refine ops_q (v := .lit (.bool true)) (fs := []) rfl (by simp only [quiet, ev_set]; exact congrArg one (eqlT rfl)) rfl rfl ?_
    refine ops_nil ?_
    refine runs_cond true rfl ?_
    refine runs_seq ?_
    refine runs_region ?_
    refine ops_q (v := .ptr (h.next + 1) 0) (fs := []) rfl rfl rfl rfl ?_
    refine ops_q (v := .ptr (h.next + 1) 0) (fs := []) rfl rfl rfl rfl ?_
    refine ops_nil ?_
    refine runs_ret ?_
    exact ⟨_, rfl, _, _, rfl, g1, k1⟩
  | cons r rs =>
  obtain ⟨pp, v, hidx, hvl⟩ := hL.1.2 0 r rfl
  obtain ⟨hv, _⟩ := hvl h (Kept.refl _ _)
  obtain ⟨L', hsl, hV'⟩ := hL.2 r rs rfl
  refine runs_call Tryz.func7 rfl ?_
  refine runs_seq ?_
  refine runs_region ?_
  refine ops_q (v := .lit (.pointer none)) (fs := []) rfl rfl rfl rfl ?_
  refine ops_nil ?_
  refine runs_seq ?_
  refine runs_region ?_
  refine ops_c (f := 15) (args := []) rfl rfl rfl (clone_body Tryz.func15 rfl) rfl rfl ?_
  refine (new_runs Γ h).mono ?_
  rintro ⟨ex1, fr1, H1, v1⟩ ⟨hv1, k1, g1⟩
  have hv1 : v1 = .ptr (h.next + 1) 0 := hv1
  subst hv1
  have k1 : Kept h.next h H1 := k1
  have g1 : SeenAt H1 (h.next + 1) h.next [] := g1
  have hv_1 := hv.kept k1
  refine ops_q (v := .ptr (h.next + 1) 0) (fs := []) rfl rfl rfl rfl ?_
  refine ops_nil ?_
  refine runs_seq ?_
  refine runs_seq ?_
  refine runs_region ?_
  refine ops_q (v := L) (fs := []) rfl rfl rfl rfl ?_
  refine ops_q (v := .lit (.int .i64 (Int.ofNat (r :: rs).length))) (fs := []) rfl (hL.1.1 _) rfl rfl ?_
  refine ops_q (v := .lit (.bool false)) (fs := []) rfl (by simp only [quiet, ev_set]; exact congrArg one (eqlF (by simp only [List.length_cons, Int.ofNat_eq_natCast]; omega))) rfl rfl ?_
  refine ops_nil ?_
  refine runs_cond false rfl ?_
  refine runs_skip ?_
  refine runs_seq ?_
  refine runs_region ?_
  refine ops_q (v := L) (fs := []) rfl rfl rfl rfl ?_
  refine ops_q (v := pp) (fs := []) rfl (by simp only [quiet, ev_set]; exact congrArg one hidx) rfl rfl ?_
  obtain ⟨hv1, fs1, hld1⟩ := hvl H1 (k1)
  refine ops_q (v := v) (fs := fs1) rfl (by simp only [quiet, ev_set]; exact hld1) rfl rfl ?_
  refine ops_c (f := 19) (args := [v]) rfl rfl rfl (clone_body Tryz.func19 rfl) rfl rfl ?_
  refine (all_runs Γ v hv_1.cell H1).mono ?_
  rintro ⟨ex2, fr2, H2, v2⟩ ⟨hv2, k2, g2⟩
  have hv2 : v2 = .func (.func 30) [] [.ptr H1.next 0] := hv2
  subst hv2
  have k2 : Kept H1.next H1 H2 := k2
  have g2 : At H2 H1.next (.cells [v] 26) := g2
  have hv_2 := hv_1.kept k2
  have g1_2 := g1.kept k2
  refine ops_c (f := 18) (args := [.func (.func 30) [] [.ptr H1.next 0]]) rfl rfl rfl (clone_body Tryz.func18 rfl) rfl rfl ?_
  refine (collectM_runs Γ H2 _ v r (hrs r (List.mem_cons_self ..)) g2 hv_2).mono ?_
  rintro ⟨ex3, fr3, H3, v3⟩ ⟨hv3, g3, k3⟩
  have hv3 : v3 = .map H2.next := hv3
  subst hv3
  have k3 : Kept H2.next H2 H3 := k3
  have g3 : At H3 H2.next (.map (ent r 0) r.length) := g3
  have hv_3 := hv_2.kept k3
  have g1_3 := g1_2.kept k3
  have g2_3 := g2.kept k3
  refine ops_newA (cs := [.map H2.next]) rfl rfl rfl rfl rfl rfl rfl rfl (by simp only [ev_set] <;> rfl) rfl rfl rfl rfl (fun H4 g4 k4 n4 => ?_)
  have hv_4 := hv_3.kept k4
  have g1_4 := g1_3.kept k4
  have g2_4 := g2_3.kept k4
  have g3_4 := g3.kept k4
  refine ops_nil ?_
  refine runs_seq (runs_seq ?_)
  refine runs_region ?_
  refine ops_q (v := L) (fs := []) rfl rfl rfl rfl ?_
  refine ops_q (v := L') (fs := []) rfl (by simp only [quiet, ev_set]; exact congrArg one hsl) rfl rfl ?_
  refine ops_q (v := .lit (.int .i64 (Int.ofNat rs.length))) (fs := []) rfl (hV'.1 _) rfl rfl ?_
  refine ops_q (v := .lit (.int .i64 (Int.ofNat 0))) (fs := []) rfl rfl rfl rfl ?_
  refine ops_nil ?_
  generalize hT : (((((((((((((((((T.ofList [L] 0 .leaf).set 2 (.lit (.pointer none))).set 13 (.ptr (h.next + 1) 0)).set 3 (.ptr (h.next + 1) 0)).set 14 (L)).set 15 (.lit (.int .i64 (Int.ofNat (r :: rs).length)))).set 16 (.lit (.bool false))).set 18 (L)).set 19 (pp)).set 20 (v)).set 21 (.func (.func 30) [] [.ptr H1.next 0])).set 22 (.map H2.next)).set 4 (.ptr H3.next 0)).set 23 (L)).set 24 (L')).set 25 (.lit (.int .i64 (Int.ofNat rs.length)))).set 26 (.lit (.int .i64 (Int.ofNat 0)))) = tm
  have e3 : Fr.ev ⟨tm, 60, []⟩ (.tmp 3) = .ptr (h.next + 1) 0 := by rw [← hT]; simp only [ev_set] <;> rfl
  have e4 : Fr.ev ⟨tm, 60, []⟩ (.tmp 4) = .ptr H3.next 0 := by rw [← hT]; simp only [ev_set] <;> rfl
  have e24 : Fr.ev ⟨tm, 60, []⟩ (.tmp 24) = L' := by rw [← hT]; simp only [ev_set] <;> rfl
  have e25 : Fr.ev ⟨tm, 60, []⟩ (.tmp 25) = .lit (.int .i64 (Int.ofNat rs.length)) := by rw [← hT]; simp only [ev_set] <;> rfl
  have e26 : Fr.ev ⟨tm, 60, []⟩ (.tmp 26) = .lit (.int .i64 (Int.ofNat 0)) := by rw [← hT]; simp only [ev_set] <;> rfl
  have kk := k1.then (k2.then (k3.then k4))
  have c1 := k1.next
  have c2 := k2.next
  have c3 := k3.next
  have c4 := k4.next
  have d0 := g1_4.ob.lt
  have d1 := g1.ob.lt
  have dQ := g3_4.lt
  have dA := g4.lt
  have hst : stable (r :: rs) = (rs.drop 0).foldl minR r := rfl
  have hasc : Asc (stable (r :: rs)) := fold_asc rs r (hag r (List.mem_cons_self ..)).1 fun s hs => (hag s (List.mem_cons_of_mem _ hs)).1
  have hgood : Good (stable (r :: rs)) := fold_good rs r (hag r (List.mem_cons_self ..)).2 fun s hs => (hag s (List.mem_cons_of_mem _ hs)).2
  refine runs_block ((st_loop Γ (h.next + 1) h.next H3.next h.next rs L' (fun s hs => hrs s (List.mem_cons_of_mem _ hs)) (by omega) (by omega) (by rw [List.length_cons] at hn; omega) rs.length 0 (Nat.zero_add _) tm H4 [] r H2.next e3 e4 e24 e25 e26 (hV'.kept kk) g4 g3_4 g1_4 (Marks.nil _ _) (by omega)).mono ?_)
  rintro o ⟨tm2, h5, v5, ms, rfl, q1, q2, ⟨Q, q3, q4, q5⟩, q6, q7, q8, q9⟩
  rw [← hst] at q4
  rw [show ∀ fr hp v, atEnd 0 ⟨.exit 0, fr, hp, v⟩ = ⟨.normal, fr, hp, v⟩ from fun _ _ _ => rfl]
  obtain ⟨lm, hSm5, _⟩ := q6.mp
  have hrange : rangeE Tryz.prog h5 49 (.map Q) = some (.ptr h5.next 0, ⟨h5.objs.set h5.next (.mapIter (some Q) (stable (r :: rs)).length [] (stable (r :: rs)).length), h5.next + 1⟩) := by
    simp only [rangeE, tyMapI, q4.get]
    rfl
  refine runs_seq (runs_seq ?_)
  refine runs_region ?_
  refine ops_q (v := .map Q) (fs := [.cells H3.next 0 [.map Q]]) rfl (by simp only [quiet, q2]; exact load_cell rfl q3.get rfl) rfl rfl ?_
  refine ops_e (v := .ptr h5.next 0) (hp' := ⟨h5.objs.set h5.next (.mapIter (some Q) (stable (r :: rs)).length [] (stable (r :: rs)).length), h5.next + 1⟩) rfl rfl rfl (by simp only [effect, ev_set]; exact congrArg Ev.val hrange) (Nat.le_succ _) rfl rfl ?_
  refine ops_nil ?_
  have k5 : Kept h5.next h5 ⟨h5.objs.set h5.next (.mapIter (some Q) (stable (r :: rs)).length [] (stable (r :: rs)).length), h5.next + 1⟩ := ⟨Nat.le_succ _, fun c hc => get_ne (Nat.ne_of_lt hc)⟩
  have z1 := q4.lt
  have z2 := q6.ob.lt
  refine runs_block ((out_loop Γ (h.next + 1) h.next Q h5.next h.next (stable (r :: rs)) (fun p hp => (hgood p hp).2) (by omega) (by omega) (by omega) (by omega) (Nat.le_refl _) (by omega) (stable (r :: rs)).length [] (Nat.zero_add _) List.nodup_nil (fun _ h => by cases h) _ _ ms ?_ ?_ (q4.kept k5) ⟨Nat.lt_succ_self _, get_same⟩ (q6.kept k5) (q7.kept k5)).mono ?_)
  · simp only [ev_set]; exact q1
  · simp only [ev_set] <;> rfl
  rintro o ⟨tm3, h6, v6, rfl, p1, ⟨π, hπ, p2⟩, p3, p4, p5⟩
  rw [put_perm hasc hgood hπ] at p2
  rw [show ∀ fr hp v, atEnd 4 ⟨.exit 4, fr, hp, v⟩ = ⟨.normal, fr, hp, v⟩ from fun _ _ _ => rfl]
  obtain ⟨h7, s1, s2, s3⟩ := shut_all ms h6 p3.1 fun D hD => (p3.2 D hD).2.get
  have hnot : ∀ {c : Nat} {ob : AObj}, At h6 c ob → (∀ b, ob ≠ .deferred b) → c ∉ ms := fun {c ob} hc hne hm => by
    have := (p3.2 c hm).2.get.symm.trans hc.get
    exact hne _ (Option.some.inj this).symm
  refine runs_seq ?_
  refine runs_region ?_
  refine ops_q (v := .ptr (h.next + 1) 0) (fs := []) rfl (by simp only [quiet, p1] <;> rfl) rfl rfl ?_
  refine ops_q (v := .ptr (h.next + 1) 0) (fs := []) rfl rfl rfl rfl ?_
  refine ops_nil ?_
  refine runs_ret ?_
  refine ⟨_, leave_marks (t := 2) rfl s1 (by simp only [ev_set] <;> rfl), _, _, rfl, ⟨⟨by rw [s2]; exact p2.ob.lt, (s3 _ (hnot p2.ob fun b e => by cases e)).trans p2.ob.get⟩, p2.mp.elim fun l hl => ⟨l, ⟨by rw [s2]; exact hl.1.lt, (s3 _ (hnot hl.1 fun b e => by cases e)).trans hl.1.get⟩, hl.2⟩, p2.asc, p2.good⟩, ⟨?_, fun c hc => ?_⟩⟩
  · show h.next ≤ h7.next
    have : h5.next + 1 ≤ h6.next := p5
    omega
  · have hcm : c ∉ ms := fun hm => by
      have := (p3.2 c hm).1
      omega
    exact (s3 c hcm).trans ((p4 c hc).trans ((get_ne (by omega)).trans ((q8 c hc).trans (kk.old c hc))))

end Go.Proofs.YtjilmneaeocimaaGreatDoor.snap
