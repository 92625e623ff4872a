/-
  'counterpaneref34.Add', whole; by the author's gen_snap.py, in the calculus of runs. | 'counterpanelaw34.Of': what is seen of a list of ids, and the document's; by the author's gen_snap.py, in the calculus of runs.
-/
import Derived.Test.YtjilmneaeocimaaGreatDoorSpGR
namespace Go.Proofs.YtjilmneaeocimaaGreatDoor.snap
open Go Go.Proofs.YtjilmneaeocimaaGreatDoor.Ev

theorem leave_two {P : Program} {Γ : Glob} {fn : Func} {tm : T SV} {n s t : Nat} {h : Hp} {v w v0 : SV} (hr : fn.results.toList = [.tmp s, .tmp t]) (he : Fr.ev ⟨tm, n, []⟩ (.tmp s) = v) (hw : Fr.ev ⟨tm, n, []⟩ (.tmp t) = w) : leave P Γ fn ⟨.ret, ⟨tm, n, []⟩, h, v0⟩ = some [⟨.ret, ⟨tm, n, []⟩, h, .tuple [v, w]⟩] := by
  simp only [leave, shutMarks, hr, resultsQ, Option.map_some, he, hw]
theorem IdR.raise {h H : Hp} {lo : Nat} {v : SV} {r : List (Int × Int)} (s : IdR h lo v r) (k : Kept h.next h H) : IdR H lo v r := s.kept k
set_option maxHeartbeats 8000000 in
set_option maxRecDepth 20000 in
theorem radd_runs (Γ : Glob) (a n : Int) (r : List (Int × Int)) (hr0 : r.length ≤ 1000) (ha : Asc r) (v : SV) (lo0 : Nat) (h : Hp) (hlo0 : lo0 ≤ h.next) (hr : IdR h lo0 v r) : Runs Tryz.prog Γ (.call 17 [v, .agg [.lit (.int .i64 a), .lit (.int .i64 n)]] h) fun o => ∃ v' b, o.v = .tuple [v', .lit (.bool b)] ∧ IdR o.hp lo0 v' (addR r (a, n)) ∧ Kept h.next h o.hp := by
  by_cases hm : May (a, n)
  case neg =>
    have hm : decide (May (a, n)) = false := decide_eq_false hm
    rw [show addR r (a, n) = r by rw [addR, if_neg]; simp only [isNew, hm, Bool.false_and]; decide]
    refine runs_call Tryz.func17 rfl ?_
    refine runs_seq ?_
    refine runs_region ?_
    refine ops_box (cs := [.lit (.int .i64 a), .lit (.int .i64 n)]) rfl rfl rfl rfl rfl (fun H1 g1 k1 n1 => ?_)
    have hr_1 := hr.kept k1
    refine ops_q (v := .lit (.slice none 0 0)) (fs := []) rfl rfl rfl rfl ?_
    refine ops_q (v := .lit (.bool false)) (fs := []) rfl rfl rfl rfl ?_
    refine ops_nil ?_
    refine runs_seq ?_
    refine runs_seq ?_
    refine runs_region ?_
    refine ops_q (v := .agg [.lit (.int .i64 a), .lit (.int .i64 n)]) (fs := [.cells h.next 0 [.lit (.int .i64 a), .lit (.int .i64 n)]]) rfl (by simp only [quiet, ev_set]; exact load_cut rfl rfl g1.get rfl) rfl rfl ?_
    refine ops_c (f := 27) (args := [.agg [.lit (.int .i64 a), .lit (.int .i64 n)]]) rfl rfl rfl (clone_body Tryz.func27 rfl) rfl rfl ?_
    refine ((rmay_runs Γ a n H1).mono fun r hr => (⟨hr.1.trans (by rw [hm]), hr.2⟩ : Tells H1 (.lit (.bool false)) r)).mono ?_
    rintro ⟨ex2, fr2, H2, v2⟩ ⟨hv2, k2⟩
    have hv2 : v2 = .lit (.bool false) := hv2
    subst hv2
    have k2 : Kept H1.next H1 H2 := k2
    have hr_2 := hr_1.kept k2
    have g1_2 := g1.kept k2
    refine ops_q (v := .lit (.bool true)) (fs := []) rfl rfl rfl rfl ?_
    refine ops_q (v := .lit (.bool true)) (fs := []) rfl rfl rfl rfl ?_
    refine ops_u rfl rfl rfl ?_
    refine ops_u rfl rfl rfl ?_
    refine ops_u rfl rfl rfl ?_
    refine ops_q (v := .lit (.bool true)) (fs := []) rfl rfl rfl rfl ?_
    refine ops_nil ?_
    refine runs_cond true rfl ?_
    refine runs_seq ?_
    refine runs_region ?_
    refine ops_q (v := v) (fs := []) rfl rfl rfl rfl ?_
    refine ops_q (v := v) (fs := []) rfl rfl rfl rfl ?_
    refine ops_q (v := .lit (.bool false)) (fs := []) rfl rfl rfl rfl ?_
    refine ops_nil ?_
    refine runs_ret ?_
    exact ⟨_, leave_two (s := 4) (t := 5) rfl rfl rfl, v, false, rfl, hr_2, k1.then k2⟩
  have hm : decide (May (a, n)) = true := decide_eq_true hm
  cases hh : has r (a, n) with
  | true =>
    rw [show addR r (a, n) = r by
      rw [addR, if_neg]
      simp only [isNew, hm, Bool.true_and, decide_eq_true_eq]
      simp only [has, hm, Bool.true_and, decide_eq_true_eq] at hh
      omega]
    refine runs_call Tryz.func17 rfl ?_
    refine runs_seq ?_
    refine runs_region ?_
    refine ops_box (cs := [.lit (.int .i64 a), .lit (.int .i64 n)]) rfl rfl rfl rfl rfl (fun H1 g1 k1 n1 => ?_)
    have hr_1 := hr.kept k1
    refine ops_q (v := .lit (.slice none 0 0)) (fs := []) rfl rfl rfl rfl ?_
    refine ops_q (v := .lit (.bool false)) (fs := []) rfl rfl rfl rfl ?_
    refine ops_nil ?_
    refine runs_seq ?_
    refine runs_seq ?_
    refine runs_region ?_
    refine ops_q (v := .agg [.lit (.int .i64 a), .lit (.int .i64 n)]) (fs := [.cells h.next 0 [.lit (.int .i64 a), .lit (.int .i64 n)]]) rfl (by simp only [quiet, ev_set]; exact load_cut rfl rfl g1.get rfl) rfl rfl ?_
    refine ops_c (f := 27) (args := [.agg [.lit (.int .i64 a), .lit (.int .i64 n)]]) rfl rfl rfl (clone_body Tryz.func27 rfl) rfl rfl ?_
    refine ((rmay_runs Γ a n H1).mono fun r hr => (⟨hr.1.trans (by rw [hm]), hr.2⟩ : Tells H1 (.lit (.bool true)) r)).mono ?_
    rintro ⟨ex2, fr2, H2, v2⟩ ⟨hv2, k2⟩
    have hv2 : v2 = .lit (.bool true) := hv2
    subst hv2
    have k2 : Kept H1.next H1 H2 := k2
    have hr_2 := hr_1.kept k2
    have g1_2 := g1.kept k2
    refine ops_q (v := .lit (.bool false)) (fs := []) rfl rfl rfl rfl ?_
    refine ops_q (v := .lit (.bool false)) (fs := []) rfl rfl rfl rfl ?_
    refine ops_q (v := v) (fs := []) rfl rfl rfl rfl ?_
    refine ops_q (v := .agg [.lit (.int .i64 a), .lit (.int .i64 n)]) (fs := [.cells h.next 0 [.lit (.int .i64 a), .lit (.int .i64 n)]]) rfl (by simp only [quiet, ev_set]; exact load_cut rfl rfl g1_2.get rfl) rfl rfl ?_
    refine ops_c (f := 28) (args := [v, .agg [.lit (.int .i64 a), .lit (.int .i64 n)]]) rfl rfl rfl (clone_body Tryz.func28 rfl) rfl rfl ?_
    refine ((rhas_runs Γ a n r (by omega) ha v lo0 H2 hr_2).mono fun r hr => (⟨hr.1.trans (by rw [hh]), hr.2⟩ : Tells H2 (.lit (.bool true)) r)).mono ?_
    rintro ⟨ex3, fr3, H3, v3⟩ ⟨hv3, k3⟩
    have hv3 : v3 = .lit (.bool true) := hv3
    subst hv3
    have k3 : Kept H2.next H2 H3 := k3
    have hr_3 := hr_2.kept k3
    have g1_3 := g1_2.kept k3
    refine ops_q (v := .lit (.bool true)) (fs := []) rfl rfl rfl rfl ?_
    refine ops_nil ?_
    refine runs_cond true rfl ?_
    refine runs_seq ?_
    refine runs_region ?_
    refine ops_q (v := v) (fs := []) rfl rfl rfl rfl ?_
    refine ops_q (v := v) (fs := []) rfl rfl rfl rfl ?_
    refine ops_q (v := .lit (.bool false)) (fs := []) rfl rfl rfl rfl ?_
    refine ops_nil ?_
    refine runs_ret ?_
    exact ⟨_, leave_two (s := 4) (t := 5) rfl rfl rfl, v, false, rfl, hr_3, k1.then (k2.then k3)⟩
  | false =>
  rw [show addR r (a, n) = insR r (a, n) by
    rw [addR, if_pos]
    simp only [isNew, hm, Bool.true_and, decide_eq_true_eq]
    simp only [has, hm, Bool.true_and, decide_eq_false_iff_not] at hh
    omega]
  refine runs_call Tryz.func17 rfl ?_
  refine runs_seq ?_
  refine runs_region ?_
  refine ops_box (cs := [.lit (.int .i64 a), .lit (.int .i64 n)]) rfl rfl rfl rfl rfl (fun H1 g1 k1 n1 => ?_)
  have hr_1 := hr.kept k1
  refine ops_q (v := .lit (.slice none 0 0)) (fs := []) rfl rfl rfl rfl ?_
  refine ops_q (v := .lit (.bool false)) (fs := []) rfl rfl rfl rfl ?_
  refine ops_nil ?_
  refine runs_seq ?_
  refine runs_seq ?_
  refine runs_region ?_
  refine ops_q (v := .agg [.lit (.int .i64 a), .lit (.int .i64 n)]) (fs := [.cells h.next 0 [.lit (.int .i64 a), .lit (.int .i64 n)]]) rfl (by simp only [quiet, ev_set]; exact load_cut rfl rfl g1.get rfl) rfl rfl ?_
  refine ops_c (f := 27) (args := [.agg [.lit (.int .i64 a), .lit (.int .i64 n)]]) rfl rfl rfl (clone_body Tryz.func27 rfl) rfl rfl ?_
  refine ((rmay_runs Γ a n H1).mono fun r hr => (⟨hr.1.trans (by rw [hm]), hr.2⟩ : Tells H1 (.lit (.bool true)) r)).mono ?_
  rintro ⟨ex2, fr2, H2, v2⟩ ⟨hv2, k2⟩
  have hv2 : v2 = .lit (.bool true) := hv2
  subst hv2
  have k2 : Kept H1.next H1 H2 := k2
  have hr_2 := hr_1.kept k2
  have g1_2 := g1.kept k2
  refine ops_q (v := .lit (.bool false)) (fs := []) rfl rfl rfl rfl ?_
  refine ops_q (v := .lit (.bool false)) (fs := []) rfl rfl rfl rfl ?_
  refine ops_q (v := v) (fs := []) rfl rfl rfl rfl ?_
  refine ops_q (v := .agg [.lit (.int .i64 a), .lit (.int .i64 n)]) (fs := [.cells h.next 0 [.lit (.int .i64 a), .lit (.int .i64 n)]]) rfl (by simp only [quiet, ev_set]; exact load_cut rfl rfl g1_2.get rfl) rfl rfl ?_
  refine ops_c (f := 28) (args := [v, .agg [.lit (.int .i64 a), .lit (.int .i64 n)]]) rfl rfl rfl (clone_body Tryz.func28 rfl) rfl rfl ?_
  refine ((rhas_runs Γ a n r (by omega) ha v lo0 H2 hr_2).mono fun r hr => (⟨hr.1.trans (by rw [hh]), hr.2⟩ : Tells H2 (.lit (.bool false)) r)).mono ?_
  rintro ⟨ex3, fr3, H3, v3⟩ ⟨hv3, k3⟩
  have hv3 : v3 = .lit (.bool false) := hv3
  subst hv3
  have k3 : Kept H2.next H2 H3 := k3
  have hr_3 := hr_2.kept k3
  have g1_3 := g1_2.kept k3
  refine ops_q (v := .lit (.bool false)) (fs := []) rfl rfl rfl rfl ?_
  refine ops_nil ?_
  refine runs_cond false rfl ?_
  refine runs_skip ?_
  refine runs_seq ?_
  refine runs_region ?_
  refine ops_e (v := .slice H3.next 0 0 0) (hp' := ⟨H3.objs.set H3.next (.cells [] 44), H3.next + 1⟩) rfl rfl rfl rfl (Nat.le_succ _) rfl rfl ?_
  generalize hH4 : (⟨H3.objs.set H3.next (.cells [] 44), H3.next + 1⟩ : Hp) = H4
  have n4 : H4.next = H3.next + 1 := by rw [← hH4]
  have k4 : Kept H3.next H3 H4 := ⟨by omega, fun b hb => by rw [← hH4]; exact get_ne (Nat.ne_of_lt hb)⟩
  have g4 : At H4 H3.next (.cells [] 44) := ⟨by omega, by rw [← hH4]; exact get_same⟩
  have hr_4 := hr_3.kept k4
  have g1_4 := g1_3.kept k4
  refine ops_q (v := .slice H3.next 0 0 0) (fs := []) rfl rfl rfl rfl ?_
  refine ops_nil ?_
  refine runs_seq ?_
  refine runs_region ?_
  refine ops_q (v := .lit (.bool false)) (fs := []) rfl rfl rfl rfl ?_
  refine ops_nil ?_
  refine runs_seq (runs_seq ?_)
  refine runs_region ?_
  refine ops_q (v := .lit (.int .i64 (Int.ofNat 0))) (fs := []) rfl rfl rfl rfl ?_
  refine ops_nil ?_
  have hkk := k1.then (k2.then (k3.then k4))
  have hg1 := g1.lt
  have z1 := k1.next
  have z2 := g4.lt
  refine runs_block ((ra_loop Γ h.next H4.next a n r hr0 v lo0 g1_4.lt (fun bl hb => ?_) r.length 0 (Nat.zero_add _) _ H4 (.slice H3.next 0 0 0) rfl rfl rfl rfl rfl g1_4 hr_4 (.inl ⟨rfl, .inr ⟨_, rfl, g4⟩⟩) (Nat.le_refl _)).mono ?_)
  · rcases hr_4 with ⟨_, q | ⟨b, q, _⟩⟩ | ⟨bl', q, _, q3⟩
    · rw [q] at hb; cases hb
    · rw [q] at hb; cases hb
    · rw [q] at hb
      cases hb
      exact q3.lt
  rintro out ⟨tm', h', v0, o', rfl, q1, q2, q3, q4, q5⟩
  have hB' := g1_4.keptLo q5 g1_4.lt
  have hbn := build_len (a, n) r
  have hnn : H4.next ≤ h'.next := q5.next
  rw [show ∀ fr hp v, atEnd 0 ⟨.exit 0, fr, hp, v⟩ = ⟨.normal, fr, hp, v⟩ from fun _ _ _ => rfl]
  have hins := build_ins (p := (a, n)) ha
  cases hd : (build (a, n) r).2 with
  | true =>
    rw [hd] at q3 hins
    rw [cond_true] at hins
    rw [hins] at q4
    refine runs_seq ?_
    refine runs_seq ?_
    refine runs_region ?_
    refine ops_q (v := .lit (.bool true)) (fs := []) rfl (by simp only [quiet, q3] <;> rfl) rfl rfl ?_
    refine ops_q (v := .lit (.bool false)) (fs := []) rfl rfl rfl rfl ?_
    refine ops_nil ?_
    refine runs_cond false rfl ?_
    refine runs_skip ?_
    refine runs_seq ?_
    refine runs_region ?_
    refine ops_q (v := o') (fs := []) rfl (by simp only [quiet, ev_set, q2] <;> rfl) rfl rfl ?_
    refine ops_q (v := o') (fs := []) rfl rfl rfl rfl ?_
    refine ops_q (v := .lit (.bool true)) (fs := []) rfl rfl rfl rfl ?_
    refine ops_nil ?_
    refine runs_ret ?_
    refine ⟨_, leave_two (s := 4) (t := 5) rfl (by simp only [ev_set] <;> rfl) (by simp only [ev_set] <;> rfl), _, true, rfl, q4.less (Nat.le_trans hlo0 hkk.next), hkk.trans (q5.less (by have := hkk.next; omega))⟩
  | false =>
    rw [hd] at q3 hins
    rw [cond_false] at hins
    refine runs_seq ?_
    refine runs_seq ?_
    refine runs_region ?_
    refine ops_q (v := .lit (.bool false)) (fs := []) rfl (by simp only [quiet, q3] <;> rfl) rfl rfl ?_
    refine ops_q (v := .lit (.bool true)) (fs := []) rfl rfl rfl rfl ?_
    refine ops_nil ?_
    refine runs_cond true rfl ?_
    refine runs_region ?_
    refine ops_q (v := o') (fs := []) rfl (by simp only [quiet, ev_set, q2] <;> rfl) rfl rfl ?_
    refine ops_q (v := .agg [.lit (.int .i64 a), .lit (.int .i64 n)]) (fs := [.cells h.next 0 [.lit (.int .i64 a), .lit (.int .i64 n)]]) rfl (by simp only [quiet, ev_set, q1]; exact load_cut rfl rfl hB'.get rfl) rfl rfl ?_
    refine ops_app (p := (a, n)) (r := (build (a, n) r).1) (lo := H4.next) (v := o') rfl rfl (by simp only [ev_set] <;> rfl) rfl rfl rfl rfl (by simp only [ev_set] <;> rfl) (by simp only [ev_set] <;> rfl) rfl rfl q4 (by omega) hnn (fun w1 H1 c1 n1 k1 => ?_)
    have n1 : H1.next = h'.next + 2 := n1
    have kk1 : Kept H4.next h' H1 := ⟨by omega, k1⟩
    refine ops_q (v := w1) (fs := []) rfl rfl rfl rfl ?_
    refine ops_nil ?_
    refine runs_seq ?_
    refine runs_region ?_
    refine ops_q (v := w1) (fs := []) rfl rfl rfl rfl ?_
    refine ops_q (v := w1) (fs := []) rfl rfl rfl rfl ?_
    refine ops_q (v := .lit (.bool true)) (fs := []) rfl rfl rfl rfl ?_
    refine ops_nil ?_
    refine runs_ret ?_
    rw [hins] at c1
    refine ⟨_, leave_two (s := 4) (t := 5) rfl (by simp only [ev_set] <;> rfl) (by simp only [ev_set] <;> rfl), _, true, rfl, c1.less (Nat.le_trans hlo0 hkk.next), hkk.trans ((q5.trans kk1).less (by have := hkk.next; omega))⟩

end Go.Proofs.YtjilmneaeocimaaGreatDoor.snap
namespace Go.Proofs.YtjilmneaeocimaaGreatDoor.snap
open Go Go.Proofs.YtjilmneaeocimaaGreatDoor.Ev

noncomputable def ofLoop : Code := (inBlk (seqR (seqL (seqR (seqR (seqR (bodyOf Tryz.f6)))))))
noncomputable def ofB : Code := (inBlk (seqL (seqR (seqR (inLoop ofLoop)))))
/-- A list of ids that came in, or was made: each can be read as long as what lies ahead of lo is as it is. -/
def Ids (Γ : Glob) (lo : Nat) (h : Hp) (v : SV) (ids : List (Int × Int)) : Prop := (∀ h', lenQ Tryz.prog h' 25 v = some (.lit (.int .i64 (Int.ofNat ids.length)), [])) ∧ ∀ k p, ids[k]? = some p → ∃ q, indexAddrQ Tryz.prog 25 v (.lit (.int .i64 (Int.ofNat k))) = some q ∧ ∀ h', Kept lo h h' → ∃ fs, loadQ Tryz.prog Γ h' 44 q = some (.agg (idC p), fs)
theorem Ids.kept {Γ : Glob} {lo : Nat} {h H : Hp} {v : SV} {ids : List (Int × Int)} (s : Ids Γ lo h v ids) (k : Kept lo h H) : Ids Γ lo H v ids := ⟨s.1, fun j p hp => by
  obtain ⟨q, h1, h2⟩ := s.2 j p hp
  exact ⟨q, h1, fun h' k' => h2 h' (k.trans k')⟩⟩
/-- What ids come to. -/
def allR (ids : List (Int × Int)) : List (Int × Int) := ids.foldl addR []
theorem allR_asc (ids : List (Int × Int)) : Asc (allR ids) := by
  suffices h : ∀ (ids r : List (Int × Int)), Asc r → Asc (ids.foldl addR r) from h ids [] List.Pairwise.nil
  intro ids
  induction ids with
  | nil => exact fun r h => h
  | cons p ids ih => exact fun r h => ih _ (addR_asc h)
theorem allR_good (ids : List (Int × Int)) : Good (allR ids) := by
  suffices h : ∀ (ids r : List (Int × Int)), Good r → Good (ids.foldl addR r) from h ids [] fun _ hp => by cases hp
  intro ids
  induction ids with
  | nil => exact fun r h => h
  | cons p ids ih => exact fun r h => ih _ (addR_good h trivial)
theorem addR_len (r : List (Int × Int)) (p : Int × Int) : (addR r p).length ≤ r.length + 1 := by
  unfold addR
  split
  · rw [insR, List.length_append, List.length_cons]
    have h1 : ∀ (r : List (Int × Int)), (r.filter fun x => decide (x.1 < p.1)).length + (r.filter fun x => decide (p.1 < x.1)).length ≤ r.length := by
      intro r
      induction r with
      | nil => exact Nat.le_refl _
      | cons x r ih =>
        rw [List.filter_cons, List.filter_cons, List.length_cons]
        by_cases ha : x.1 < p.1
        · rw [if_pos (by simpa using ha), if_neg (by simp; omega), List.length_cons]
          omega
        · rw [if_neg (by simpa using ha)]
          by_cases hb : p.1 < x.1
          · rw [if_pos (by simpa using hb), List.length_cons]
            omega
          · rw [if_neg (by simpa using hb)]
            omega
    have := h1 r
    omega
  · omega
theorem allR_len (ids : List (Int × Int)) : (allR ids).length ≤ ids.length := by
  suffices h : ∀ (ids r : List (Int × Int)), (ids.foldl addR r).length ≤ r.length + ids.length by
    have := h ids []
    simpa [allR] using this
  intro ids
  induction ids with
  | nil => intro r; simp
  | cons p ids ih =>
    intro r
    rw [List.foldl_cons, List.length_cons]
    have := ih (addR r p)
    have := addR_len r p
    omega
theorem allR_snoc {ids : List (Int × Int)} {k : Nat} {p : Int × Int} (h : ids[k]? = some p) : allR (ids.take (k + 1)) = addR (allR (ids.take k)) p := by
  rw [take_snoc h, allR, List.foldl_append]
  rfl
theorem IdR.keptBut {h H : Hp} {lo M c0 : Nat} {v : SV} {r : List (Int × Int)} {es : List (SV × SV × Nat)} (s : IdR h lo v r) (hM : At h M (.map es c0)) (k : ∀ c, c < h.next → c ≠ M → H.objs.get c = h.objs.get c) (n : h.next ≤ H.next) : IdR H lo v r := by
  rcases s with ⟨e, s | ⟨b, s1, s2⟩⟩ | ⟨bl, s1, s2, s3⟩
  · exact .inl ⟨e, .inl s⟩
  · refine .inl ⟨e, .inr ⟨b, s1, ⟨Nat.lt_of_lt_of_le s2.lt n, (k b s2.lt ?_).trans s2.get⟩⟩⟩
    rintro rfl
    have := s2.get.symm.trans hM.get
    cases this
  · refine .inr ⟨bl, s1, s2, ⟨Nat.lt_of_lt_of_le s3.lt n, (k bl s3.lt ?_).trans s3.get⟩⟩
    rintro rfl
    have := s3.get.symm.trans hM.get
    cases this
set_option maxHeartbeats 8000000 in
set_option maxRecDepth 20000 in
theorem of_body (Γ : Glob) (Sb Sm lo k : Nat) (ids r : List (Int × Int)) (hr0 : r.length ≤ 1000) (L v : SV) (p : Int × Int) (tm : T SV) (h : Hp) (e4 : Fr.ev ⟨tm, 27, []⟩ (.tmp 4) = .ptr Sb 0) (e5 : Fr.ev ⟨tm, 27, []⟩ (.tmp 5) = v) (e9 : Fr.ev ⟨tm, 27, []⟩ (.tmp 9) = L) (e11 : Fr.ev ⟨tm, 27, []⟩ (.tmp 11) = .lit (.int .i64 (Int.ofNat k))) (hL : Ids Γ lo h L ids) (hp : ids[k]? = some p) (hS : SeenAt h Sb Sm r) (hr : IdR h lo v r) (hlo : lo ≤ h.next) (hSm : lo ≤ Sm) :
    Runs Tryz.prog Γ (.code ofB none ⟨tm, 27, []⟩ h) fun o => ∃ tm' h' v0 v', o = ⟨.normal, ⟨tm', 27, []⟩, h', v0⟩ ∧ (∀ t ∈ [4, 9, 10, 11], Fr.ev ⟨tm', 27, []⟩ (.tmp t) = Fr.ev ⟨tm, 27, []⟩ (.tmp t)) ∧ Fr.ev ⟨tm', 27, []⟩ (.tmp 5) = v' ∧ SeenAt h' Sb Sm (addR r p) ∧ IdR h' lo v' (addR r p) ∧ Kept lo h h' := by
  obtain ⟨q, hidx, hrd⟩ := hL.2 k p hp
  obtain ⟨fs, hld⟩ := hrd h (Kept.refl _ _)
  refine runs_seq ?_
  refine runs_region ?_
  refine ops_q (v := q) (fs := []) rfl (by simp only [quiet, e9, e11]; exact congrArg one hidx) rfl rfl ?_
  refine ops_q (v := .agg [.lit (.int .i64 p.1), .lit (.int .i64 p.2)]) (fs := fs) rfl (by simp only [quiet, ev_set]; exact hld) rfl rfl ?_
  refine ops_newA (cs := [.lit (.int .i64 p.1), .lit (.int .i64 p.2)]) rfl rfl rfl rfl rfl rfl rfl rfl (by simp only [ev_set] <;> rfl) rfl rfl rfl rfl (fun H1 g1 k1 n1 => ?_)
  have hS_1 := hS.kept k1
  have hr_1 := hr.kept k1
  refine ops_nil ?_
  refine runs_seq ?_
  refine runs_region ?_
  refine ops_q (v := .ptr Sb 0) (fs := []) rfl (by simp only [quiet, ev_set, e4] <;> rfl) rfl rfl ?_
  refine ops_q (v := .agg [.lit (.int .i64 p.1), .lit (.int .i64 p.2)]) (fs := [.cells h.next 0 [.lit (.int .i64 p.1), .lit (.int .i64 p.2)]]) rfl (by simp only [quiet, ev_set]; exact load_cut rfl rfl g1.get rfl) rfl rfl ?_
  obtain ⟨lm1, hS1_mp, _⟩ := hS_1.mp
  refine ops_c (f := 16) (args := [.ptr Sb 0, .agg [.lit (.int .i64 p.1), .lit (.int .i64 p.2)]]) rfl rfl (by simp only [calleeOf, List.map_cons, List.map_nil, ev_set] <;> rfl) (clone_body Tryz.func16 rfl) rfl rfl ?_
  refine (add_runs Γ Sb Sm r p.1 p.2 trivial H1 hS_1).mono ?_
  rintro ⟨ex2, fr2, H2, v2⟩ ⟨hv2, hS2, hold2, hn2⟩
  have hS2 : SeenAt H2 Sb Sm (addR r (p.1, p.2)) := hS2
  have hold2 : ∀ c, c < H1.next → c ≠ Sm → H2.objs.get c = H1.objs.get c := hold2
  have hn2 : H1.next ≤ H2.next := hn2
  have hr2 : IdR H2 lo v r := hr_1.keptBut (hS1_mp) hold2 hn2
  have gX2 : At H2 h.next (.cells [.lit (.int .i64 p.1), .lit (.int .i64 p.2)] 44) := ⟨Nat.lt_of_lt_of_le g1.lt hn2, (hold2 _ g1.lt (g1.ne hS1_mp)).trans g1.get⟩
  refine ops_nil ?_
  refine runs_region ?_
  refine ops_q (v := v) (fs := []) rfl (by simp only [quiet, ev_set, e5] <;> rfl) rfl rfl ?_
  refine ops_q (v := .agg [.lit (.int .i64 p.1), .lit (.int .i64 p.2)]) (fs := [.cells h.next 0 [.lit (.int .i64 p.1), .lit (.int .i64 p.2)]]) rfl (by simp only [quiet, ev_set]; exact load_cut rfl rfl gX2.get rfl) rfl rfl ?_
  refine ops_c (f := 17) (args := [v, .agg [.lit (.int .i64 p.1), .lit (.int .i64 p.2)]]) rfl rfl (by simp only [calleeOf, List.map_cons, List.map_nil, ev_set] <;> rfl) (clone_body Tryz.func17 rfl) rfl rfl ?_
  refine (radd_runs Γ p.1 p.2 r hr0 hS.asc v lo H2 (by omega) hr2).mono ?_
  rintro ⟨ex3, fr3, H3, v3⟩ ⟨v', b', hv3, hr3, k3⟩
  have hv3 : v3 = .tuple [v', .lit (.bool b')] := hv3
  subst hv3
  have k3 : Kept H2.next H2 H3 := k3
  have hr3 : IdR H3 lo v' (addR r (p.1, p.2)) := hr3
  have hS2_3 := hS2.kept k3
  have hr2_3 := hr2.kept k3
  have gX2_3 := gX2.kept k3
  refine ops_q (v := .tuple [v', .lit (.bool b')]) (fs := []) rfl rfl rfl rfl ?_
  refine ops_q (v := v') (fs := []) rfl rfl rfl rfl ?_
  refine ops_q (v := .lit (.bool b')) (fs := []) rfl rfl rfl rfl ?_
  refine ops_q (v := v') (fs := []) rfl rfl rfl rfl ?_
  refine ops_nil ?_
  exact ⟨_, _, _, v', rfl, slots4 (by simp only [ev_set] <;> rfl) (by simp only [ev_set] <;> rfl) (by simp only [ev_set] <;> rfl) (by simp only [ev_set] <;> rfl), by simp only [ev_set] <;> rfl, hS2_3, hr3, ⟨show h.next ≤ H3.next from by have := k1.next; have := k3.next; omega, fun c hc => (k3.old c (by have := k1.next; omega)).trans ((hold2 c (by have := k1.next; omega) (by omega)).trans (k1.old c (by omega)))⟩⟩

set_option maxHeartbeats 8000000 in
set_option maxRecDepth 20000 in
theorem of_loop (Γ : Glob) (Sb Sm lo : Nat) (ids : List (Int × Int)) (hids : ids.length ≤ 1000) (L : SV) (hSm : lo ≤ Sm) : ∀ (rem k : Nat), k + rem = ids.length → ∀ (tm : T SV) (h : Hp) (v : SV), Fr.ev ⟨tm, 27, []⟩ (.tmp 4) = .ptr Sb 0 → Fr.ev ⟨tm, 27, []⟩ (.tmp 5) = v → Fr.ev ⟨tm, 27, []⟩ (.tmp 9) = L → Fr.ev ⟨tm, 27, []⟩ (.tmp 10) = .lit (.int .i64 (Int.ofNat ids.length)) → Fr.ev ⟨tm, 27, []⟩ (.tmp 11) = .lit (.int .i64 (Int.ofNat k)) → Ids Γ lo h L ids → SeenAt h Sb Sm (allR (ids.take k)) → IdR h lo v (allR (ids.take k)) → lo ≤ h.next →
    Runs Tryz.prog Γ (.code ofLoop none ⟨tm, 27, []⟩ h) fun o => ∃ tm' h' v0 v', o = ⟨.exit 0, ⟨tm', 27, []⟩, h', v0⟩ ∧ Fr.ev ⟨tm', 27, []⟩ (.tmp 4) = .ptr Sb 0 ∧ Fr.ev ⟨tm', 27, []⟩ (.tmp 5) = v' ∧ SeenAt h' Sb Sm (allR ids) ∧ IdR h' lo v' (allR ids) ∧ Kept lo h h' := by
  intro rem
  induction rem with
  | zero =>
    intro k hk tm h v e4 e5 e9 e10 e11 hL hS hr hlo
    obtain rfl : k = ids.length := by omega
    rw [List.take_length] at hS hr
    refine runs_loop ?_
    refine runs_seq (runs_region ?_)
    refine ops_q (v := .lit (.bool false)) (fs := []) rfl (by simp only [quiet, e10, e11]; exact congrArg one (lssF (Int.lt_irrefl _))) rfl rfl ?_
    refine ops_nil ?_
    refine runs_seq (runs_cond false rfl (runs_exit ?_))
    refine ⟨_, _, _, v, rfl, ?_, ?_, hS, hr, Kept.refl _ _⟩
    · simp only [ev_set]; exact e4
    · simp only [ev_set]; exact e5
  | succ rem ih =>
    intro k hk tm h v e4 e5 e9 e10 e11 hL hS hr hlo
    have hkl : k < ids.length := by omega
    have hd : ids[k]? = some ids[k] := List.getElem?_eq_getElem hkl
    have hsn := allR_snoc hd
    have hlen := allR_len (ids.take k)
    have hl2 : (ids.take k).length ≤ 1000 := by rw [List.length_take]; omega
    generalize ids[k] = p at hd hsn
    refine runs_loop ?_
    refine runs_seq (runs_region ?_)
    refine ops_q (v := .lit (.bool true)) (fs := []) rfl (by simp only [quiet, e10, e11]; exact congrArg one (lssT (Int.ofNat_lt.2 hkl))) rfl rfl ?_
    refine ops_nil ?_
    refine runs_seq (runs_cond true rfl (runs_skip ?_))
    refine runs_seq (runs_block ((of_body Γ Sb Sm lo k ids _ (by omega) L v p _ h (by simp only [ev_set]; exact e4) (by simp only [ev_set]; exact e5) (by simp only [ev_set]; exact e9) (by simp only [ev_set]; exact e11) hL hd hS hr hlo hSm).mono ?_))
    rintro o ⟨tm', h', v0, v', rfl, hs, p1, p2, p3, p4⟩
    rw [show ∀ fr hp v, atEnd 1 ⟨.normal, fr, hp, v⟩ = ⟨.normal, fr, hp, v⟩ from fun _ _ _ => rfl]
    have s4 := hs 4 (by decide)
    have s9 := hs 9 (by decide)
    have s10 := hs 10 (by decide)
    have s11 := hs 11 (by decide)
    simp only [ev_set] at s4 s9 s10 s11
    have s4 : Fr.ev ⟨tm', 27, []⟩ (.tmp 4) = .ptr Sb 0 := s4.trans e4
    have s9 : Fr.ev ⟨tm', 27, []⟩ (.tmp 9) = L := s9.trans e9
    have s10 : Fr.ev ⟨tm', 27, []⟩ (.tmp 10) = .lit (.int .i64 (Int.ofNat ids.length)) := s10.trans e10
    have s11 : Fr.ev ⟨tm', 27, []⟩ (.tmp 11) = .lit (.int .i64 (Int.ofNat k)) := s11.trans e11
    rw [← hsn] at p2 p3
    refine runs_region ?_
    refine ops_q (v := .lit (.int .i64 (Int.ofNat (k + 1)))) (fs := []) rfl (by simp only [quiet, s11]; exact congrArg one (addQ (c := Int.ofNat (k + 1)) rfl (by simp only [Int.ofNat_eq_natCast]; omega) (by simp only [Int.ofNat_eq_natCast]; omega))) rfl rfl ?_
    refine ops_q (v := .lit (.int .i64 (Int.ofNat (k + 1)))) (fs := []) rfl rfl rfl rfl ?_
    refine ops_nil ?_
    refine (ih (k + 1) (by omega) _ h' v' ?_ ?_ ?_ ?_ ?_ (hL.kept p4) p2 p3 (Nat.le_trans hlo p4.next)).mono ?_
    · simp only [ev_set]; exact s4
    · simp only [ev_set]; exact p1
    · simp only [ev_set]; exact s9
    · simp only [ev_set]; exact s10
    · simp only [ev_set]; rfl
    · rintro o ⟨tm2, h2, v2, v3, rfl, q1, q2, q3, q4, q5⟩
      exact ⟨tm2, h2, v2, v3, rfl, q1, q2, q3, q4, p4.trans q5⟩

set_option maxHeartbeats 8000000 in
set_option maxRecDepth 20000 in
/-- **What a list of ids comes to**, in both ways. -/
theorem of_runs (Γ : Glob) (h : Hp) (L : SV) (ids : List (Int × Int)) (hids : ids.length ≤ 1000) (hL : Ids Γ h.next h L ids) :
    Runs Tryz.prog Γ (.call 6 [L] h) fun o => ∃ b M v', o.v = .tuple [.ptr b 0, v'] ∧ SeenAt o.hp b M (allR ids) ∧ IdR o.hp h.next v' (allR ids) ∧ Kept h.next h o.hp := by
  refine runs_call Tryz.func6 rfl ?_
  refine runs_seq ?_
  refine runs_region ?_
  refine ops_q (v := .lit (.pointer none)) (fs := []) rfl rfl rfl rfl ?_
  refine ops_q (v := .lit (.slice none 0 0)) (fs := []) rfl rfl rfl rfl ?_
  refine ops_nil ?_
  refine runs_seq ?_
  refine runs_region ?_
  refine ops_c (f := 15) (args := []) rfl rfl rfl (clone_body Tryz.func15 rfl) rfl rfl ?_
  refine (new_runs Γ h).mono ?_
  rintro ⟨ex1, fr1, H1, v1⟩ ⟨hv1, k1, g1⟩
  have hv1 : v1 = .ptr (h.next + 1) 0 := hv1
  subst hv1
  have k1 : Kept h.next h H1 := k1
  have g1 : SeenAt H1 (h.next + 1) h.next [] := g1
  refine ops_q (v := .ptr (h.next + 1) 0) (fs := []) rfl rfl rfl rfl ?_
  refine ops_nil ?_
  refine runs_seq ?_
  refine runs_region ?_
  refine ops_q (v := .lit (.slice none 0 0)) (fs := []) rfl rfl rfl rfl ?_
  refine ops_nil ?_
  refine runs_seq (runs_seq ?_)
  refine runs_region ?_
  refine ops_q (v := L) (fs := []) rfl rfl rfl rfl ?_
  refine ops_q (v := .lit (.int .i64 (Int.ofNat ids.length))) (fs := []) rfl (hL.1 _) rfl rfl ?_
  refine ops_q (v := .lit (.int .i64 (Int.ofNat 0))) (fs := []) rfl rfl rfl rfl ?_
  refine ops_nil ?_
  have c1 := k1.next
  refine runs_block ((of_loop Γ (h.next + 1) h.next h.next ids hids L (Nat.le_refl _) ids.length 0 (Nat.zero_add _) _ H1 (.lit (.slice none 0 0)) rfl rfl rfl rfl rfl (hL.kept k1) g1 (IdR.nil _ _) c1).mono ?_)
  rintro o ⟨tm', h', v0, v', rfl, q1, q2, q3, q4, q5⟩
  rw [show ∀ fr hp v, atEnd 0 ⟨.exit 0, fr, hp, v⟩ = ⟨.normal, fr, hp, v⟩ from fun _ _ _ => rfl]
  refine runs_seq ?_
  refine runs_region ?_
  refine ops_q (v := .ptr (h.next + 1) 0) (fs := []) rfl (by simp only [quiet, q1] <;> rfl) rfl rfl ?_
  refine ops_q (v := v') (fs := []) rfl (by simp only [quiet, ev_set, q2] <;> rfl) rfl rfl ?_
  refine ops_q (v := .ptr (h.next + 1) 0) (fs := []) rfl rfl rfl rfl ?_
  refine ops_q (v := v') (fs := []) rfl rfl rfl rfl ?_
  refine ops_nil ?_
  refine runs_ret ?_
  exact ⟨_, leave_two (s := 2) (t := 3) rfl (by simp only [ev_set] <;> rfl) (by simp only [ev_set] <;> rfl), _, _, v', rfl, q3, q4, k1.trans q5⟩

end Go.Proofs.YtjilmneaeocimaaGreatDoor.snap
