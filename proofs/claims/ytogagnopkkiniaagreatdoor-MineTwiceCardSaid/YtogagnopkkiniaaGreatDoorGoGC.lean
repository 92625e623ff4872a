/-
  'mine.Gone', ITS FIRST LOOP: the takers are gathered; printed by the author's gen_gone.py, in the calculus of runs. | 'mine.Gone', ITS SECOND LOOP: the takers are gone through; printed by the author's gen_gone.py, in the calculus of runs. | 'mine.Gone', WHOLE: what it tells is the document's; printed by the author's gen_gone.py, in the calculus of runs.
-/
import Derived.Test.YtogagnopkkiniaaGreatDoorGoGB
namespace Go.Proofs.YtogagnopkkiniaaGreatDoor.gone
open Go Go.Proofs.YtogagnopkkiniaaGreatDoor.Ev

noncomputable def g1Loop : Code := (inBlk (seqR (seqL (seqR (seqR (bodyOf Tryz.f5))))))
noncomputable def g1B : Code := (inBlk (seqL (seqR (seqR (inLoop g1Loop)))))
/-- The takers among the first deeds. -/
def taks (q : Int) (l : List D) : List D := l.filter (isT q)
theorem taks_no {q : Int} {l : List D} {d : D} (h : isT q d = false) : taks q (l ++ [d]) = taks q l := by simp [taks, List.filter_append, h]
theorem taks_yes {q : Int} {l : List D} {d : D} (h : isT q d = true) : taks q (l ++ [d]) = taks q l ++ [d] := by simp [taks, List.filter_append, h]
theorem slots4 {a b c d : Nat} {f g : Fr} (h1 : f.ev (.tmp a) = g.ev (.tmp a)) (h2 : f.ev (.tmp b) = g.ev (.tmp b)) (h3 : f.ev (.tmp c) = g.ev (.tmp c)) (h4 : f.ev (.tmp d) = g.ev (.tmp d)) : ∀ t ∈ [a, b, c, d], f.ev (.tmp t) = g.ev (.tmp t) := fun t ht => by
  simp only [List.mem_cons, List.not_mem_nil, or_false] at ht
  rcases ht with rfl | rfl | rfl | rfl <;> assumption
theorem slots5 {a b c d e : Nat} {f g : Fr} (h1 : f.ev (.tmp a) = g.ev (.tmp a)) (h2 : f.ev (.tmp b) = g.ev (.tmp b)) (h3 : f.ev (.tmp c) = g.ev (.tmp c)) (h4 : f.ev (.tmp d) = g.ev (.tmp d)) (h5 : f.ev (.tmp e) = g.ev (.tmp e)) : ∀ t ∈ [a, b, c, d, e], f.ev (.tmp t) = g.ev (.tmp t) := fun t ht => by
  simp only [List.mem_cons, List.not_mem_nil, or_false] at ht
  rcases ht with rfl | rfl | rfl | rfl | rfl <;> assumption
theorem slots3 {a b c : Nat} {f g : Fr} (h1 : f.ev (.tmp a) = g.ev (.tmp a)) (h2 : f.ev (.tmp b) = g.ev (.tmp b)) (h3 : f.ev (.tmp c) = g.ev (.tmp c)) : ∀ t ∈ [a, b, c], f.ev (.tmp t) = g.ev (.tmp t) := fun t ht => by
  simp only [List.mem_cons, List.not_mem_nil, or_false] at ht
  rcases ht with rfl | rfl | rfl <;> assumption
theorem deedC_len {d : D} {c3 c4 c5 c6 : SV} {rest : List SV} (h : rest.length = 30) : (deedC d c3 c4 c5 c6 rest).length = 39 := by simp [deedC, h]
set_option maxRecDepth 20000 in
/-- One deed more: a slice of one is built, and appended. -/
theorem ops_tak {Γ : Glob} {ops : Array Oper} {o1 o2 : Oper} {l : List Oper} {tm : T SV} {n t1 t2 : Nat} {ms : List Nat} {hp : Hp} {Φ : Out → Prop} {x s y : Operand} {v : SV} {d : D} {done : List D} {lo bl : Nat}
    (w1 : wantedQ ops ⟨tm, n, ms⟩ o1 = some true) (h1 : o1.op = .buildSlice 22 1 #[(0, x)]) (hx : Fr.ev ⟨tm, n, ms⟩ x = .agg (takC d)) (p1 : o1.dst = some t1) (q1 : Nat.blt t1 n = true)
    (w2 : wantedQ ops ⟨tm.set t1 (.slice hp.next 0 1 1), n, ms⟩ o2 = some true) (h2 : o2.op = .call ⟨.builtin .append, #[s, y], #[22, 22]⟩) (hs : Fr.ev ⟨tm.set t1 (.slice hp.next 0 1 1), n, ms⟩ s = v) (hy : Fr.ev ⟨tm.set t1 (.slice hp.next 0 1 1), n, ms⟩ y = .slice hp.next 0 1 1) (p2 : o2.dst = some t2) (q2 : Nat.blt t2 n = true)
    (hrow : RowIs hp lo bl 42 39 v (done.map takC)) (hn : done.length ≤ 1000000) (hlo : lo ≤ hp.next)
    (k : ∀ v' H, RowIs H lo (hp.next + 1) 42 39 v' ((done ++ [d]).map takC) → H.next = hp.next + 2 → (∀ b, b < lo → H.objs.get b = hp.objs.get b) → RunsOps Tryz.prog Γ ops l ⟨(tm.set t1 (.slice hp.next 0 1 1)).set t2 v', n, ms⟩ H Φ) : RunsOps Tryz.prog Γ ops (o1 :: o2 :: l) ⟨tm, n, ms⟩ hp Φ := by
  have hrow2 : RowIs ⟨hp.objs.set hp.next (.cells (takC d) 42), hp.next + 1⟩ lo bl 42 39 v (done.map takC) := hrow.kept (Nat.le_succ _) fun hb _ => get_ne (by omega)
  obtain ⟨v', H, happ, hrow', hnx, hget⟩ := append_tak (Γ := Γ) (nb := hp.next) hrow2 hn (Nat.le_succ_of_le hlo) get_same
  refine ops_e (v := .slice hp.next 0 1 1) (hp' := ⟨hp.objs.set hp.next (.cells (takC d) 42), hp.next + 1⟩) w1 (by rw [h1]; rfl) (by rw [h1]; rfl) (by
    rw [h1]
    simp only [effect, List.map_cons, List.map_nil, hx]
    rfl) (Nat.le_succ _) p1 q1 ?_
  refine ops_e (v := v') (hp' := H) w2 (by rw [h2]; rfl) (by rw [h2]; rfl) (by
    rw [h2]
    simp only [effect, hs, hy]
    exact congrArg val happ) (by have : H.next = hp.next + 1 + 1 := hnx; show hp.next + 1 ≤ H.next; omega) p2 q2 ?_
  refine k v' H hrow' hnx fun b hb => ?_
  by_cases hvn : v = .lit (.slice none 0 0)
  · rw [hget b (by show b < hp.next + 1; omega) (.inl hvn)]; exact get_ne (by omega)
  · refine (hget b (by show b < hp.next + 1; omega) (.inr ?_)).trans (get_ne (by omega))
    rcases hrow with ⟨e, _⟩ | ⟨_, e, _⟩
    · exact absurd e hvn
    · omega

set_option maxHeartbeats 8000000 in
set_option maxRecDepth 20000 in
theorem g1_body (Γ : Glob) (lo B : Nat) (q m : Int) (L : SV) (ds : List D) (k : Nat) (d : D) (hd : ds[k]? = some d) (tm : T SV) (h : Hp) (v : SV) (bl : Nat) (done : List D)
    (e3 : Fr.ev ⟨tm, 75, []⟩ (.tmp 3) = .ptr B 0) (e5 : Fr.ev ⟨tm, 75, []⟩ (.tmp 5) = v) (e11 : Fr.ev ⟨tm, 75, []⟩ (.tmp 11) = L) (e13 : Fr.ev ⟨tm, 75, []⟩ (.tmp 13) = .lit (.int .i64 (Int.ofNat k)))
    (hL : Lst Γ lo h L ds) (hB : h.objs.get B = some (.cells (idC q m) 24)) (hBlo : B < lo) (hrow : RowIs h lo bl 42 39 v ((taks q done).map takC)) (hn : (taks q done).length ≤ 1000000) (hlo : lo ≤ h.next) :
    Runs Tryz.prog Γ (.code g1B none ⟨tm, 75, []⟩ h) fun o => ∃ tm' h' v0, o = ⟨.normal, ⟨tm', 75, []⟩, h', v0⟩ ∧ (∀ t ∈ [3, 11, 12, 13], Fr.ev ⟨tm', 75, []⟩ (.tmp t) = Fr.ev ⟨tm, 75, []⟩ (.tmp t)) ∧ (∃ bl', RowIs h' lo bl' 42 39 (Fr.ev ⟨tm', 75, []⟩ (.tmp 5)) ((taks q (done ++ [d])).map takC)) ∧ Kept lo h h' := by
  obtain ⟨p, c3, c4, c5, c6, rest, hr, hone, hidx, hld⟩ := hL.2 k d hd
  obtain ⟨fs, hld⟩ := hld h (Kept.refl _ _)
  have hBne : B ≠ h.next := by omega
  have hdl := deedC_len (d := d) (c3 := c3) (c4 := c4) (c5 := c5) (c6 := c6) hr
  by_cases hk : d.k = 7
  case neg =>
    have hT : isT q d = false := by simp only [isT, Bool.and_eq_false_iff, decide_eq_false_iff_not]; omega
    refine runs_seq ?_
    refine runs_region ?_
    refine ops_q (v := p) (fs := []) rfl (by simp only [quiet, e11, e13]; exact congrArg one hidx) rfl rfl ?_
    refine ops_q (v := .agg (deedC d c3 c4 c5 c6 rest)) (fs := fs) rfl (by simp only [quiet, ev_set]; exact hld) rfl rfl ?_
    refine ops_new (e := 42) (cs := deedC d c3 c4 c5 c6 rest) (m := 39) rfl rfl rfl rfl rfl rfl rfl rfl rfl rfl rfl hdl hone (fun H g1 g2 g3 => ?_)
    refine ops_nil ?_
    refine runs_seq ?_
    refine runs_region ?_
    refine ops_q (v := .ptr h.next 2) (fs := []) rfl rfl rfl rfl ?_
    refine ops_q (v := .lit (.int .i64 d.k)) (fs := [.cells h.next 2 [.lit (.int .i64 d.k)]]) rfl (by simp only [quiet, ev_set]; exact load_cell rfl g1 rfl) rfl rfl ?_
    refine ops_q (v := .lit (.bool false)) (fs := []) rfl (by simp only [quiet, ev_set]; exact congrArg one (eqlF hk)) rfl rfl ?_
    refine ops_q (v := .lit (.bool false)) (fs := []) rfl rfl rfl rfl ?_
    refine ops_u rfl rfl rfl ?_
    refine ops_u rfl rfl rfl ?_
    refine ops_u rfl rfl rfl ?_
    refine ops_u rfl rfl rfl ?_
    refine ops_u rfl rfl rfl ?_
    refine ops_u rfl rfl rfl ?_
    refine ops_q (v := .lit (.bool false)) (fs := []) rfl rfl rfl rfl ?_
    refine ops_q (v := .lit (.bool false)) (fs := []) rfl rfl rfl rfl ?_
    refine ops_u rfl rfl rfl ?_
    refine ops_u rfl rfl rfl ?_
    refine ops_u rfl rfl rfl ?_
    refine ops_u rfl rfl rfl ?_
    refine ops_u rfl rfl rfl ?_
    refine ops_u rfl rfl rfl ?_
    refine ops_q (v := .lit (.bool false)) (fs := []) rfl rfl rfl rfl ?_
    refine ops_q (v := .lit (.bool false)) (fs := []) rfl rfl rfl rfl ?_
    refine ops_u rfl rfl rfl ?_
    refine ops_u rfl rfl rfl ?_
    refine ops_u rfl rfl rfl ?_
    refine ops_u rfl rfl rfl ?_
    refine ops_u rfl rfl rfl ?_
    refine ops_u rfl rfl rfl ?_
    refine ops_u rfl rfl rfl ?_
    refine ops_q (v := .lit (.bool false)) (fs := []) rfl rfl rfl rfl ?_
    refine ops_nil ?_
    refine runs_cond false rfl ?_
    refine runs_skip ?_
    rw [taks_no hT]
    refine ⟨_, _, _, rfl, slots4 (by simp only [ev_set] <;> rfl) (by simp only [ev_set] <;> rfl) (by simp only [ev_set] <;> rfl) (by simp only [ev_set] <;> rfl), ⟨bl, row_fresh hrow g2 g3 (by simp only [ev_set]; exact e5)⟩, kept_fresh hlo g2 g3⟩
  by_cases ha : d.a = q
  case neg =>
    have hT : isT q d = false := by simp only [isT, Bool.and_eq_false_iff, decide_eq_false_iff_not]; omega
    refine runs_seq ?_
    refine runs_region ?_
    refine ops_q (v := p) (fs := []) rfl (by simp only [quiet, e11, e13]; exact congrArg one hidx) rfl rfl ?_
    refine ops_q (v := .agg (deedC d c3 c4 c5 c6 rest)) (fs := fs) rfl (by simp only [quiet, ev_set]; exact hld) rfl rfl ?_
    refine ops_new (e := 42) (cs := deedC d c3 c4 c5 c6 rest) (m := 39) rfl rfl rfl rfl rfl rfl rfl rfl rfl rfl rfl hdl hone (fun H g1 g2 g3 => ?_)
    refine ops_nil ?_
    refine runs_seq ?_
    refine runs_region ?_
    refine ops_q (v := .ptr h.next 2) (fs := []) rfl rfl rfl rfl ?_
    refine ops_q (v := .lit (.int .i64 d.k)) (fs := [.cells h.next 2 [.lit (.int .i64 d.k)]]) rfl (by simp only [quiet, ev_set]; exact load_cell rfl g1 rfl) rfl rfl ?_
    refine ops_q (v := .lit (.bool true)) (fs := []) rfl (by simp only [quiet, ev_set]; exact congrArg one (eqlT hk)) rfl rfl ?_
    refine ops_q (v := .lit (.bool true)) (fs := []) rfl rfl rfl rfl ?_
    refine ops_q (v := .ptr h.next 0) (fs := []) rfl rfl rfl rfl ?_
    refine ops_q (v := .ptr h.next 0) (fs := []) rfl rfl rfl rfl ?_
    refine ops_q (v := .lit (.int .i64 d.a)) (fs := [.cells h.next 0 [.lit (.int .i64 d.a)]]) rfl (by simp only [quiet, ev_set]; exact load_cell rfl g1 rfl) rfl rfl ?_
    refine ops_q (v := .ptr B 0) (fs := []) rfl (by simp only [quiet, ev_set, e3] <;> rfl) rfl rfl ?_
    refine ops_q (v := .lit (.int .i64 q)) (fs := [.cells B 0 [.lit (.int .i64 q)]]) rfl (by simp only [quiet, ev_set]; exact load_cell rfl ((g2 B hBne).trans hB) rfl) rfl rfl ?_
    refine ops_q (v := .lit (.bool false)) (fs := []) rfl (by simp only [quiet, ev_set]; exact congrArg one (eqlF ha)) rfl rfl ?_
    refine ops_q (v := .lit (.bool false)) (fs := []) rfl rfl rfl rfl ?_
    refine ops_q (v := .lit (.bool false)) (fs := []) rfl rfl rfl rfl ?_
    refine ops_u rfl rfl rfl ?_
    refine ops_u rfl rfl rfl ?_
    refine ops_u rfl rfl rfl ?_
    refine ops_u rfl rfl rfl ?_
    refine ops_u rfl rfl rfl ?_
    refine ops_u rfl rfl rfl ?_
    refine ops_q (v := .lit (.bool false)) (fs := []) rfl rfl rfl rfl ?_
    refine ops_q (v := .lit (.bool false)) (fs := []) rfl rfl rfl rfl ?_
    refine ops_u rfl rfl rfl ?_
    refine ops_u rfl rfl rfl ?_
    refine ops_u rfl rfl rfl ?_
    refine ops_u rfl rfl rfl ?_
    refine ops_u rfl rfl rfl ?_
    refine ops_u rfl rfl rfl ?_
    refine ops_u rfl rfl rfl ?_
    refine ops_q (v := .lit (.bool false)) (fs := []) rfl rfl rfl rfl ?_
    refine ops_nil ?_
    refine runs_cond false rfl ?_
    refine runs_skip ?_
    rw [taks_no hT]
    refine ⟨_, _, _, rfl, slots4 (by simp only [ev_set] <;> rfl) (by simp only [ev_set] <;> rfl) (by simp only [ev_set] <;> rfl) (by simp only [ev_set] <;> rfl), ⟨bl, row_fresh hrow g2 g3 (by simp only [ev_set]; exact e5)⟩, kept_fresh hlo g2 g3⟩
  by_cases hta : d.ta = q
  case neg =>
    have hT : isT q d = false := by simp only [isT, Bool.and_eq_false_iff, decide_eq_false_iff_not]; omega
    refine runs_seq ?_
    refine runs_region ?_
    refine ops_q (v := p) (fs := []) rfl (by simp only [quiet, e11, e13]; exact congrArg one hidx) rfl rfl ?_
    refine ops_q (v := .agg (deedC d c3 c4 c5 c6 rest)) (fs := fs) rfl (by simp only [quiet, ev_set]; exact hld) rfl rfl ?_
    refine ops_new (e := 42) (cs := deedC d c3 c4 c5 c6 rest) (m := 39) rfl rfl rfl rfl rfl rfl rfl rfl rfl rfl rfl hdl hone (fun H g1 g2 g3 => ?_)
    refine ops_nil ?_
    refine runs_seq ?_
    refine runs_region ?_
    refine ops_q (v := .ptr h.next 2) (fs := []) rfl rfl rfl rfl ?_
    refine ops_q (v := .lit (.int .i64 d.k)) (fs := [.cells h.next 2 [.lit (.int .i64 d.k)]]) rfl (by simp only [quiet, ev_set]; exact load_cell rfl g1 rfl) rfl rfl ?_
    refine ops_q (v := .lit (.bool true)) (fs := []) rfl (by simp only [quiet, ev_set]; exact congrArg one (eqlT hk)) rfl rfl ?_
    refine ops_q (v := .lit (.bool true)) (fs := []) rfl rfl rfl rfl ?_
    refine ops_q (v := .ptr h.next 0) (fs := []) rfl rfl rfl rfl ?_
    refine ops_q (v := .ptr h.next 0) (fs := []) rfl rfl rfl rfl ?_
    refine ops_q (v := .lit (.int .i64 d.a)) (fs := [.cells h.next 0 [.lit (.int .i64 d.a)]]) rfl (by simp only [quiet, ev_set]; exact load_cell rfl g1 rfl) rfl rfl ?_
    refine ops_q (v := .ptr B 0) (fs := []) rfl (by simp only [quiet, ev_set, e3] <;> rfl) rfl rfl ?_
    refine ops_q (v := .lit (.int .i64 q)) (fs := [.cells B 0 [.lit (.int .i64 q)]]) rfl (by simp only [quiet, ev_set]; exact load_cell rfl ((g2 B hBne).trans hB) rfl) rfl rfl ?_
    refine ops_q (v := .lit (.bool true)) (fs := []) rfl (by simp only [quiet, ev_set]; exact congrArg one (eqlT ha)) rfl rfl ?_
    refine ops_q (v := .lit (.bool true)) (fs := []) rfl rfl rfl rfl ?_
    refine ops_q (v := .lit (.bool true)) (fs := []) rfl rfl rfl rfl ?_
    refine ops_q (v := .ptr h.next 7) (fs := []) rfl rfl rfl rfl ?_
    refine ops_q (v := .ptr h.next 7) (fs := []) rfl rfl rfl rfl ?_
    refine ops_q (v := .lit (.int .i64 d.ta)) (fs := [.cells h.next 7 [.lit (.int .i64 d.ta)]]) rfl (by simp only [quiet, ev_set]; exact load_cell rfl g1 rfl) rfl rfl ?_
    refine ops_q (v := .ptr B 0) (fs := []) rfl (by simp only [quiet, ev_set, e3] <;> rfl) rfl rfl ?_
    refine ops_q (v := .lit (.int .i64 q)) (fs := [.cells B 0 [.lit (.int .i64 q)]]) rfl (by simp only [quiet, ev_set]; exact load_cell rfl ((g2 B hBne).trans hB) rfl) rfl rfl ?_
    refine ops_q (v := .lit (.bool false)) (fs := []) rfl (by simp only [quiet, ev_set]; exact congrArg one (eqlF hta)) rfl rfl ?_
    refine ops_q (v := .lit (.bool false)) (fs := []) rfl rfl rfl rfl ?_
    refine ops_q (v := .lit (.bool false)) (fs := []) rfl rfl rfl rfl ?_
    refine ops_u rfl rfl rfl ?_
    refine ops_u rfl rfl rfl ?_
    refine ops_u rfl rfl rfl ?_
    refine ops_u rfl rfl rfl ?_
    refine ops_u rfl rfl rfl ?_
    refine ops_u rfl rfl rfl ?_
    refine ops_u rfl rfl rfl ?_
    refine ops_q (v := .lit (.bool false)) (fs := []) rfl rfl rfl rfl ?_
    refine ops_nil ?_
    refine runs_cond false rfl ?_
    refine runs_skip ?_
    rw [taks_no hT]
    refine ⟨_, _, _, rfl, slots4 (by simp only [ev_set] <;> rfl) (by simp only [ev_set] <;> rfl) (by simp only [ev_set] <;> rfl) (by simp only [ev_set] <;> rfl), ⟨bl, row_fresh hrow g2 g3 (by simp only [ev_set]; exact e5)⟩, kept_fresh hlo g2 g3⟩
  by_cases hgt : d.tn < d.n
  case neg =>
    have hT : isT q d = false := by simp only [isT, Bool.and_eq_false_iff, decide_eq_false_iff_not]; omega
    refine runs_seq ?_
    refine runs_region ?_
    refine ops_q (v := p) (fs := []) rfl (by simp only [quiet, e11, e13]; exact congrArg one hidx) rfl rfl ?_
    refine ops_q (v := .agg (deedC d c3 c4 c5 c6 rest)) (fs := fs) rfl (by simp only [quiet, ev_set]; exact hld) rfl rfl ?_
    refine ops_new (e := 42) (cs := deedC d c3 c4 c5 c6 rest) (m := 39) rfl rfl rfl rfl rfl rfl rfl rfl rfl rfl rfl hdl hone (fun H g1 g2 g3 => ?_)
    refine ops_nil ?_
    refine runs_seq ?_
    refine runs_region ?_
    refine ops_q (v := .ptr h.next 2) (fs := []) rfl rfl rfl rfl ?_
    refine ops_q (v := .lit (.int .i64 d.k)) (fs := [.cells h.next 2 [.lit (.int .i64 d.k)]]) rfl (by simp only [quiet, ev_set]; exact load_cell rfl g1 rfl) rfl rfl ?_
    refine ops_q (v := .lit (.bool true)) (fs := []) rfl (by simp only [quiet, ev_set]; exact congrArg one (eqlT hk)) rfl rfl ?_
    refine ops_q (v := .lit (.bool true)) (fs := []) rfl rfl rfl rfl ?_
    refine ops_q (v := .ptr h.next 0) (fs := []) rfl rfl rfl rfl ?_
    refine ops_q (v := .ptr h.next 0) (fs := []) rfl rfl rfl rfl ?_
    refine ops_q (v := .lit (.int .i64 d.a)) (fs := [.cells h.next 0 [.lit (.int .i64 d.a)]]) rfl (by simp only [quiet, ev_set]; exact load_cell rfl g1 rfl) rfl rfl ?_
    refine ops_q (v := .ptr B 0) (fs := []) rfl (by simp only [quiet, ev_set, e3] <;> rfl) rfl rfl ?_
    refine ops_q (v := .lit (.int .i64 q)) (fs := [.cells B 0 [.lit (.int .i64 q)]]) rfl (by simp only [quiet, ev_set]; exact load_cell rfl ((g2 B hBne).trans hB) rfl) rfl rfl ?_
    refine ops_q (v := .lit (.bool true)) (fs := []) rfl (by simp only [quiet, ev_set]; exact congrArg one (eqlT ha)) rfl rfl ?_
    refine ops_q (v := .lit (.bool true)) (fs := []) rfl rfl rfl rfl ?_
    refine ops_q (v := .lit (.bool true)) (fs := []) rfl rfl rfl rfl ?_
    refine ops_q (v := .ptr h.next 7) (fs := []) rfl rfl rfl rfl ?_
    refine ops_q (v := .ptr h.next 7) (fs := []) rfl rfl rfl rfl ?_
    refine ops_q (v := .lit (.int .i64 d.ta)) (fs := [.cells h.next 7 [.lit (.int .i64 d.ta)]]) rfl (by simp only [quiet, ev_set]; exact load_cell rfl g1 rfl) rfl rfl ?_
    refine ops_q (v := .ptr B 0) (fs := []) rfl (by simp only [quiet, ev_set, e3] <;> rfl) rfl rfl ?_
    refine ops_q (v := .lit (.int .i64 q)) (fs := [.cells B 0 [.lit (.int .i64 q)]]) rfl (by simp only [quiet, ev_set]; exact load_cell rfl ((g2 B hBne).trans hB) rfl) rfl rfl ?_
    refine ops_q (v := .lit (.bool true)) (fs := []) rfl (by simp only [quiet, ev_set]; exact congrArg one (eqlT hta)) rfl rfl ?_
    refine ops_q (v := .lit (.bool true)) (fs := []) rfl rfl rfl rfl ?_
    refine ops_q (v := .lit (.bool true)) (fs := []) rfl rfl rfl rfl ?_
    refine ops_q (v := .ptr h.next 0) (fs := []) rfl rfl rfl rfl ?_
    refine ops_q (v := .ptr h.next 1) (fs := []) rfl rfl rfl rfl ?_
    refine ops_q (v := .lit (.int .i64 d.n)) (fs := [.cells h.next 1 [.lit (.int .i64 d.n)]]) rfl (by simp only [quiet, ev_set]; exact load_cell rfl g1 rfl) rfl rfl ?_
    refine ops_q (v := .ptr h.next 7) (fs := []) rfl rfl rfl rfl ?_
    refine ops_q (v := .ptr h.next 8) (fs := []) rfl rfl rfl rfl ?_
    refine ops_q (v := .lit (.int .i64 d.tn)) (fs := [.cells h.next 8 [.lit (.int .i64 d.tn)]]) rfl (by simp only [quiet, ev_set]; exact load_cell rfl g1 rfl) rfl rfl ?_
    refine ops_q (v := .lit (.bool false)) (fs := []) rfl (by simp only [quiet, ev_set]; exact congrArg one (gtrF hgt)) rfl rfl ?_
    refine ops_q (v := .lit (.bool false)) (fs := []) rfl rfl rfl rfl ?_
    refine ops_nil ?_
    refine runs_cond false rfl ?_
    refine runs_skip ?_
    rw [taks_no hT]
    refine ⟨_, _, _, rfl, slots4 (by simp only [ev_set] <;> rfl) (by simp only [ev_set] <;> rfl) (by simp only [ev_set] <;> rfl) (by simp only [ev_set] <;> rfl), ⟨bl, row_fresh hrow g2 g3 (by simp only [ev_set]; exact e5)⟩, kept_fresh hlo g2 g3⟩
  have hT : isT q d = true := by simp only [isT, Bool.and_eq_true, decide_eq_true_eq]; omega
  refine runs_seq ?_
  refine runs_region ?_
  refine ops_q (v := p) (fs := []) rfl (by simp only [quiet, e11, e13]; exact congrArg one hidx) rfl rfl ?_
  refine ops_q (v := .agg (deedC d c3 c4 c5 c6 rest)) (fs := fs) rfl (by simp only [quiet, ev_set]; exact hld) rfl rfl ?_
  refine ops_new (e := 42) (cs := deedC d c3 c4 c5 c6 rest) (m := 39) rfl rfl rfl rfl rfl rfl rfl rfl rfl rfl rfl hdl hone (fun H g1 g2 g3 => ?_)
  refine ops_nil ?_
  refine runs_seq ?_
  refine runs_region ?_
  refine ops_q (v := .ptr h.next 2) (fs := []) rfl rfl rfl rfl ?_
  refine ops_q (v := .lit (.int .i64 d.k)) (fs := [.cells h.next 2 [.lit (.int .i64 d.k)]]) rfl (by simp only [quiet, ev_set]; exact load_cell rfl g1 rfl) rfl rfl ?_
  refine ops_q (v := .lit (.bool true)) (fs := []) rfl (by simp only [quiet, ev_set]; exact congrArg one (eqlT hk)) rfl rfl ?_
  refine ops_q (v := .lit (.bool true)) (fs := []) rfl rfl rfl rfl ?_
  refine ops_q (v := .ptr h.next 0) (fs := []) rfl rfl rfl rfl ?_
  refine ops_q (v := .ptr h.next 0) (fs := []) rfl rfl rfl rfl ?_
  refine ops_q (v := .lit (.int .i64 d.a)) (fs := [.cells h.next 0 [.lit (.int .i64 d.a)]]) rfl (by simp only [quiet, ev_set]; exact load_cell rfl g1 rfl) rfl rfl ?_
  refine ops_q (v := .ptr B 0) (fs := []) rfl (by simp only [quiet, ev_set, e3] <;> rfl) rfl rfl ?_
  refine ops_q (v := .lit (.int .i64 q)) (fs := [.cells B 0 [.lit (.int .i64 q)]]) rfl (by simp only [quiet, ev_set]; exact load_cell rfl ((g2 B hBne).trans hB) rfl) rfl rfl ?_
  refine ops_q (v := .lit (.bool true)) (fs := []) rfl (by simp only [quiet, ev_set]; exact congrArg one (eqlT ha)) rfl rfl ?_
  refine ops_q (v := .lit (.bool true)) (fs := []) rfl rfl rfl rfl ?_
  refine ops_q (v := .lit (.bool true)) (fs := []) rfl rfl rfl rfl ?_
  refine ops_q (v := .ptr h.next 7) (fs := []) rfl rfl rfl rfl ?_
  refine ops_q (v := .ptr h.next 7) (fs := []) rfl rfl rfl rfl ?_
  refine ops_q (v := .lit (.int .i64 d.ta)) (fs := [.cells h.next 7 [.lit (.int .i64 d.ta)]]) rfl (by simp only [quiet, ev_set]; exact load_cell rfl g1 rfl) rfl rfl ?_
  refine ops_q (v := .ptr B 0) (fs := []) rfl (by simp only [quiet, ev_set, e3] <;> rfl) rfl rfl ?_
  refine ops_q (v := .lit (.int .i64 q)) (fs := [.cells B 0 [.lit (.int .i64 q)]]) rfl (by simp only [quiet, ev_set]; exact load_cell rfl ((g2 B hBne).trans hB) rfl) rfl rfl ?_
  refine ops_q (v := .lit (.bool true)) (fs := []) rfl (by simp only [quiet, ev_set]; exact congrArg one (eqlT hta)) rfl rfl ?_
  refine ops_q (v := .lit (.bool true)) (fs := []) rfl rfl rfl rfl ?_
  refine ops_q (v := .lit (.bool true)) (fs := []) rfl rfl rfl rfl ?_
  refine ops_q (v := .ptr h.next 0) (fs := []) rfl rfl rfl rfl ?_
  refine ops_q (v := .ptr h.next 1) (fs := []) rfl rfl rfl rfl ?_
  refine ops_q (v := .lit (.int .i64 d.n)) (fs := [.cells h.next 1 [.lit (.int .i64 d.n)]]) rfl (by simp only [quiet, ev_set]; exact load_cell rfl g1 rfl) rfl rfl ?_
  refine ops_q (v := .ptr h.next 7) (fs := []) rfl rfl rfl rfl ?_
  refine ops_q (v := .ptr h.next 8) (fs := []) rfl rfl rfl rfl ?_
  refine ops_q (v := .lit (.int .i64 d.tn)) (fs := [.cells h.next 8 [.lit (.int .i64 d.tn)]]) rfl (by simp only [quiet, ev_set]; exact load_cell rfl g1 rfl) rfl rfl ?_
  refine ops_q (v := .lit (.bool true)) (fs := []) rfl (by simp only [quiet, ev_set]; exact congrArg one (gtrT hgt)) rfl rfl ?_
  refine ops_q (v := .lit (.bool true)) (fs := []) rfl rfl rfl rfl ?_
  refine ops_nil ?_
  refine runs_cond true rfl ?_
  refine runs_region ?_
  refine ops_q (v := v) (fs := []) rfl (by simp only [quiet, ev_set, e5] <;> rfl) rfl rfl ?_
  refine ops_q (v := .ptr h.next 0) (fs := []) rfl rfl rfl rfl ?_
  refine ops_q (v := .agg [.lit (.int .i64 d.a), .lit (.int .i64 d.n)]) (fs := [.cells h.next 0 [.lit (.int .i64 d.a), .lit (.int .i64 d.n)]]) rfl (by simp only [quiet, ev_set]; exact load_cut rfl rfl g1 rfl) rfl rfl ?_
  refine ops_q (v := .ptr h.next 7) (fs := []) rfl rfl rfl rfl ?_
  refine ops_q (v := .agg [.lit (.int .i64 d.ta), .lit (.int .i64 d.tn)]) (fs := [.cells h.next 7 [.lit (.int .i64 d.ta), .lit (.int .i64 d.tn)]]) rfl (by simp only [quiet, ev_set]; exact load_cut rfl rfl g1 rfl) rfl rfl ?_
  refine ops_q (v := .agg (takC d)) (fs := []) rfl rfl rfl rfl ?_
  refine ops_tak (d := d) (done := taks q done) (lo := lo) (bl := bl) (v := v) rfl rfl rfl rfl rfl rfl rfl (by simp only [ev_set] <;> rfl) rfl rfl rfl (row_fresh hrow g2 g3 rfl) hn (lo_fresh hlo g3) (fun v2 H2 k1 k2 k3 => ?_)
  refine ops_q (v := v2) (fs := []) rfl rfl rfl rfl ?_
  refine ops_nil ?_
  rw [taks_yes hT]
  refine ⟨_, _, _, rfl, slots4 (by simp only [ev_set] <;> rfl) (by simp only [ev_set] <;> rfl) (by simp only [ev_set] <;> rfl) (by simp only [ev_set] <;> rfl), ⟨H.next + 1, row_at k1 (by simp only [ev_set] <;> rfl)⟩, kept_tak hlo g2 g3 k2 k3⟩

set_option maxHeartbeats 8000000 in
set_option maxRecDepth 20000 in
theorem g1_loop (Γ : Glob) (lo B : Nat) (q m : Int) (L : SV) (ds : List D) (hds : ds.length ≤ 1000000) (hBlo : B < lo) : ∀ (rem k : Nat), k + rem = ds.length → ∀ (tm : T SV) (h : Hp) (v : SV) (bl : Nat),
    Fr.ev ⟨tm, 75, []⟩ (.tmp 3) = .ptr B 0 → Fr.ev ⟨tm, 75, []⟩ (.tmp 5) = v → Fr.ev ⟨tm, 75, []⟩ (.tmp 11) = L → Fr.ev ⟨tm, 75, []⟩ (.tmp 12) = .lit (.int .i64 (Int.ofNat ds.length)) → Fr.ev ⟨tm, 75, []⟩ (.tmp 13) = .lit (.int .i64 (Int.ofNat k)) →
    Lst Γ lo h L ds → h.objs.get B = some (.cells (idC q m) 24) → RowIs h lo bl 42 39 v ((taks q (ds.take k)).map takC) → lo ≤ h.next →
    Runs Tryz.prog Γ (.code g1Loop none ⟨tm, 75, []⟩ h) fun o => ∃ tm' h' v0, o = ⟨.exit 0, ⟨tm', 75, []⟩, h', v0⟩ ∧ Fr.ev ⟨tm', 75, []⟩ (.tmp 3) = .ptr B 0 ∧ (∃ bl', RowIs h' lo bl' 42 39 (Fr.ev ⟨tm', 75, []⟩ (.tmp 5)) ((taks q ds).map takC)) ∧ Kept lo h h' := by
  intro rem
  induction rem with
  | zero =>
    intro k hk tm h v bl e3 e5 e11 e12 e13 hL hB hrow hlo
    obtain rfl : k = ds.length := by omega
    rw [List.take_length] at hrow
    refine runs_loop ?_
    refine runs_seq (runs_region ?_)
    refine ops_q (v := .lit (.bool false)) (fs := []) rfl (by simp only [quiet, e12, e13]; exact congrArg one (lssF (Int.lt_irrefl _))) rfl rfl ?_
    refine ops_nil ?_
    refine runs_seq (runs_cond false rfl (runs_exit ?_))
    refine ⟨_, _, _, rfl, ?_, ⟨bl, ?_⟩, Kept.refl _ _⟩
    · simp only [ev_set]; exact e3
    · simp only [ev_set]; exact e5 ▸ hrow
  | succ rem ih =>
    intro k hk tm h v bl e3 e5 e11 e12 e13 hL hB hrow hlo
    have hkl : k < ds.length := by omega
    have hd : ds[k]? = some ds[k] := List.getElem?_eq_getElem hkl
    have htk : ds.take (k + 1) = ds.take k ++ [ds[k]] := by rw [List.take_append_getElem]
    have hn : (taks q (ds.take k)).length ≤ 1000000 := Nat.le_trans (List.length_filter_le _ _) (by rw [List.length_take]; omega)
    refine runs_loop ?_
    refine runs_seq (runs_region ?_)
    refine ops_q (v := .lit (.bool true)) (fs := []) rfl (by simp only [quiet, e12, e13]; exact congrArg one (lssT (Int.ofNat_lt.2 hkl))) rfl rfl ?_
    refine ops_nil ?_
    refine runs_seq (runs_cond true rfl (runs_skip ?_))
    refine runs_seq (runs_block ((g1_body Γ lo B q m L ds k _ hd _ h v bl (ds.take k) (by simp only [ev_set]; exact e3) (by simp only [ev_set]; exact e5) (by simp only [ev_set]; exact e11) (by simp only [ev_set]; exact e13) hL hB hBlo hrow hn hlo).mono ?_))
    rintro o ⟨tm', h', v0, rfl, hs, ⟨bl', hrow'⟩, hkept⟩
    rw [show ∀ fr hp v, atEnd 1 ⟨.normal, fr, hp, v⟩ = ⟨.normal, fr, hp, v⟩ from fun _ _ _ => rfl]
    have s3 := hs 3 (by decide)
    have s11 := hs 11 (by decide)
    have s12 := hs 12 (by decide)
    have s13 := hs 13 (by decide)
    simp only [ev_set] at s3 s11 s12 s13
    rw [← htk] at hrow'
    have s3 : Fr.ev ⟨tm', 75, []⟩ (.tmp 3) = .ptr B 0 := s3.trans e3
    have s11 : Fr.ev ⟨tm', 75, []⟩ (.tmp 11) = L := s11.trans e11
    have s12 : Fr.ev ⟨tm', 75, []⟩ (.tmp 12) = .lit (.int .i64 (Int.ofNat ds.length)) := s12.trans e12
    have s13 : Fr.ev ⟨tm', 75, []⟩ (.tmp 13) = .lit (.int .i64 (Int.ofNat k)) := s13.trans e13
    refine runs_region ?_
    refine ops_q (v := .lit (.int .i64 (Int.ofNat (k + 1)))) (fs := []) rfl (by simp only [quiet, s13]; exact congrArg one (addQ (c := Int.ofNat (k + 1)) rfl (by simp only [Int.ofNat_eq_natCast]; omega) (by simp only [Int.ofNat_eq_natCast]; omega))) rfl rfl ?_
    refine ops_q (v := .lit (.int .i64 (Int.ofNat (k + 1)))) (fs := []) rfl rfl rfl rfl ?_
    refine ops_nil ?_
    refine (ih (k + 1) (by omega) _ h' _ bl' ?_ rfl ?_ ?_ ?_ (hL.kept hkept) ((hkept.old B hBlo).trans hB) ?_ (Nat.le_trans hlo hkept.next)).mono ?_
    · simp only [ev_set]; exact s3
    · simp only [ev_set]; exact s11
    · simp only [ev_set]; exact s12
    · simp only [ev_set]; rfl
    · simp only [ev_set]; exact hrow'
    · rintro o ⟨tm2, h2, v2, rfl, k1, k2, k3⟩
      exact ⟨tm2, h2, v2, rfl, k1, k2, hkept.trans k3⟩
end Go.Proofs.YtogagnopkkiniaaGreatDoor.gone
namespace Go.Proofs.YtogagnopkkiniaaGreatDoor.gone
open Go Go.Proofs.YtogagnopkkiniaaGreatDoor.Ev

noncomputable def g2Loop : Code := (inBlk (seqR (seqL (seqR (seqR (seqR (seqR (seqR (bodyOf Tryz.f5)))))))))
noncomputable def g2B : Code := (inBlk (seqL (seqR (seqR (inLoop g2Loop)))))
set_option maxHeartbeats 8000000 in
set_option maxRecDepth 20000 in
theorem g2_body (Γ : Glob) (q n kk tn : Int) (ts : List D) (bl M k : Nat) (g : List Int) (hd : ts[k]? = some ⟨q, n, kk, q, tn⟩) (tm : T SV) (h : Hp)
    (e8 : Fr.ev ⟨tm, 75, []⟩ (.tmp 8) = .map M) (e57 : Fr.ev ⟨tm, 75, []⟩ (.tmp 57) = .row bl 0 ts.length ts.length bl) (e59 : Fr.ev ⟨tm, 75, []⟩ (.tmp 59) = .lit (.int .i64 (Int.ofNat k)))
    (hrow : h.objs.get bl = some (.row ((ts.map takC).flatten) 42 ts.length bl 39)) (hM : h.objs.get M = some (.map (mapG q g 0) g.length)) (hMn : M < h.next) :
    Runs Tryz.prog Γ (.code g2B none ⟨tm, 75, []⟩ h) fun o => ∃ tm' h' v0, o = ⟨.normal, ⟨tm', 75, []⟩, h', v0⟩ ∧ (∀ t ∈ [3, 8, 57, 58, 59], Fr.ev ⟨tm', 75, []⟩ (.tmp t) = Fr.ev ⟨tm, 75, []⟩ (.tmp t)) ∧ h'.objs.get M = some (.map (mapG q (stepG g ⟨q, n, kk, q, tn⟩) 0) (stepG g ⟨q, n, kk, q, tn⟩).length) ∧ (∀ b, b < h.next → b ≠ M → h'.objs.get b = h.objs.get b) ∧ h.next ≤ h'.next := by
  have hk : k < ts.length := (List.getElem?_eq_some_iff.1 hd).1
  have hMne : M ≠ h.next := by omega
  have hcut := cut_flat takC_len ts k _ hd
  cases hc : g.contains n with
  | true =>
    refine runs_seq ?_
    refine runs_region ?_
    refine ops_q (v := .ptr bl (k * 39)) (fs := []) rfl (by simp only [quiet, e57, e59]; exact congrArg one (rowIdx hk)) rfl rfl ?_
    refine ops_q (v := .agg (takC ⟨q, n, kk, q, tn⟩)) (fs := [.cells bl (k * 39) (takC ⟨q, n, kk, q, tn⟩)]) rfl (by simp only [quiet, ev_set]; exact load_row rfl rfl hrow hcut) rfl rfl ?_
    refine ops_new (e := 42) (cs := takC ⟨q, n, kk, q, tn⟩) (m := 39) rfl rfl rfl rfl rfl rfl rfl rfl rfl rfl rfl (takC_len _) (takC_one _) (fun H g1 g2 g3 => ?_)
    refine ops_nil ?_
    refine runs_seq ?_
    refine runs_region ?_
    refine ops_q (v := .map M) (fs := []) rfl (by simp only [quiet, ev_set, e8] <;> rfl) rfl rfl ?_
    refine ops_q (v := .ptr h.next 0) (fs := []) rfl rfl rfl rfl ?_
    refine ops_q (v := .agg [.lit (.int .i64 q), .lit (.int .i64 n)]) (fs := [.cells h.next 0 [.lit (.int .i64 q), .lit (.int .i64 n)]]) rfl (by simp only [quiet, ev_set]; exact load_cut rfl rfl g1 rfl) rfl rfl ?_
    refine ops_q (v := .lit (.bool true)) (fs := [.obj M (.map (mapG q g 0) g.length)]) rfl (by simp only [quiet, ev_set]; exact lookupG ((g2 M hMne).trans hM) hc) rfl rfl ?_
    refine ops_q (v := .lit (.bool false)) (fs := []) rfl rfl rfl rfl ?_
    refine ops_nil ?_
    refine runs_cond false rfl ?_
    refine runs_skip ?_
    rw [stepG_yes (d := ⟨q, n, kk, q, tn⟩) hc]
    exact ⟨_, _, _, rfl, slots5 (by simp only [ev_set] <;> rfl) (by simp only [ev_set] <;> rfl) (by simp only [ev_set] <;> rfl) (by simp only [ev_set] <;> rfl) (by simp only [ev_set] <;> rfl), (g2 M hMne).trans hM, fun b hb hne => g2 b (Nat.ne_of_lt hb), lo_fresh (Nat.le_refl _) g3⟩
  | false =>
    refine runs_seq ?_
    refine runs_region ?_
    refine ops_q (v := .ptr bl (k * 39)) (fs := []) rfl (by simp only [quiet, e57, e59]; exact congrArg one (rowIdx hk)) rfl rfl ?_
    refine ops_q (v := .agg (takC ⟨q, n, kk, q, tn⟩)) (fs := [.cells bl (k * 39) (takC ⟨q, n, kk, q, tn⟩)]) rfl (by simp only [quiet, ev_set]; exact load_row rfl rfl hrow hcut) rfl rfl ?_
    refine ops_new (e := 42) (cs := takC ⟨q, n, kk, q, tn⟩) (m := 39) rfl rfl rfl rfl rfl rfl rfl rfl rfl rfl rfl (takC_len _) (takC_one _) (fun H g1 g2 g3 => ?_)
    refine ops_nil ?_
    refine runs_seq ?_
    refine runs_region ?_
    refine ops_q (v := .map M) (fs := []) rfl (by simp only [quiet, ev_set, e8] <;> rfl) rfl rfl ?_
    refine ops_q (v := .ptr h.next 0) (fs := []) rfl rfl rfl rfl ?_
    refine ops_q (v := .agg [.lit (.int .i64 q), .lit (.int .i64 n)]) (fs := [.cells h.next 0 [.lit (.int .i64 q), .lit (.int .i64 n)]]) rfl (by simp only [quiet, ev_set]; exact load_cut rfl rfl g1 rfl) rfl rfl ?_
    refine ops_q (v := .lit (.bool false)) (fs := [.obj M (.map (mapG q g 0) g.length)]) rfl (by simp only [quiet, ev_set]; exact lookupG ((g2 M hMne).trans hM) hc) rfl rfl ?_
    refine ops_q (v := .lit (.bool true)) (fs := []) rfl rfl rfl rfl ?_
    refine ops_nil ?_
    refine runs_cond true rfl ?_
    refine runs_region ?_
    refine ops_q (v := .map M) (fs := []) rfl (by simp only [quiet, ev_set, e8] <;> rfl) rfl rfl ?_
    refine ops_q (v := .ptr h.next 7) (fs := []) rfl rfl rfl rfl ?_
    refine ops_q (v := .agg [.lit (.int .i64 q), .lit (.int .i64 tn)]) (fs := [.cells h.next 7 [.lit (.int .i64 q), .lit (.int .i64 tn)]]) rfl (by simp only [quiet, ev_set]; exact load_cut rfl rfl g1 rfl) rfl rfl ?_
    refine ops_e0 (v := .lit undef) (hp' := H.upd M (.map (mapG q (addG g tn) 0) (addG g tn).length)) rfl rfl rfl (by simp only [effect, ev_set]; exact congrArg unit (updateG ((g2 M hMne).trans hM))) (Nat.le_refl _) rfl ?_
    refine ops_nil ?_
    rw [stepG_no (d := ⟨q, n, kk, q, tn⟩) hc]
    exact ⟨_, _, _, rfl, slots5 (by simp only [ev_set] <;> rfl) (by simp only [ev_set] <;> rfl) (by simp only [ev_set] <;> rfl) (by simp only [ev_set] <;> rfl) (by simp only [ev_set] <;> rfl), get_same, fun b hb hne => (get_ne hne).trans (g2 b (Nat.ne_of_lt hb)), lo_fresh (Nat.le_refl _) g3⟩

set_option maxHeartbeats 8000000 in
set_option maxRecDepth 20000 in
theorem g2_loop (Γ : Glob) (q : Int) (ts : List D) (hq : ∀ d ∈ ts, d.a = q ∧ d.ta = q) (hts : ts.length ≤ 1000000) (v : SV) (bl M : Nat) (hMb : bl ≠ M) : ∀ (rem k : Nat), k + rem = ts.length → ∀ (tm : T SV) (h : Hp) (g : List Int),
    Fr.ev ⟨tm, 75, []⟩ (.tmp 8) = .map M → Fr.ev ⟨tm, 75, []⟩ (.tmp 57) = v → Fr.ev ⟨tm, 75, []⟩ (.tmp 58) = .lit (.int .i64 (Int.ofNat ts.length)) → Fr.ev ⟨tm, 75, []⟩ (.tmp 59) = .lit (.int .i64 (Int.ofNat k)) → (ts ≠ [] → v = .row bl 0 ts.length ts.length bl ∧ bl < h.next ∧ h.objs.get bl = some (.row ((ts.map takC).flatten) 42 ts.length bl 39)) →
    h.objs.get M = some (.map (mapG q g 0) g.length) → M < h.next →
    Runs Tryz.prog Γ (.code g2Loop none ⟨tm, 75, []⟩ h) fun o => ∃ tm' h' v0, o = ⟨.exit 2, ⟨tm', 75, []⟩, h', v0⟩ ∧ Fr.ev ⟨tm', 75, []⟩ (.tmp 3) = Fr.ev ⟨tm, 75, []⟩ (.tmp 3) ∧ Fr.ev ⟨tm', 75, []⟩ (.tmp 8) = .map M ∧ h'.objs.get M = some (.map (mapG q ((ts.drop k).foldl stepG g) 0) ((ts.drop k).foldl stepG g).length) ∧ (∀ b, b < h.next → b ≠ M → h'.objs.get b = h.objs.get b) ∧ h.next ≤ h'.next := by
  intro rem
  induction rem with
  | zero =>
    intro k hk tm h g e8 e57 e58 e59 hrow hM hMn
    obtain rfl : k = ts.length := by omega
    rw [List.drop_length, List.foldl_nil]
    refine runs_loop ?_
    refine runs_seq (runs_region ?_)
    refine ops_q (v := .lit (.bool false)) (fs := []) rfl (by simp only [quiet, e58, e59]; exact congrArg one (lssF (Int.lt_irrefl _))) rfl rfl ?_
    refine ops_nil ?_
    refine runs_seq (runs_cond false rfl (runs_exit ?_))
    refine ⟨_, _, _, rfl, ?_, ?_, hM, fun _ _ _ => rfl, Nat.le_refl _⟩
    · simp only [ev_set]; rfl
    · simp only [ev_set]; exact e8
  | succ rem ih =>
    intro k hk tm h g e8 e57 e58 e59 hrow hM hMn
    have hkl : k < ts.length := by omega
    obtain ⟨hv, hbn, hbl⟩ := hrow (by intro e; rw [e] at hkl; simp at hkl)
    have hd : ts[k]? = some ts[k] := List.getElem?_eq_getElem hkl
    have hdr : ts.drop k = ts[k] :: ts.drop (k + 1) := List.drop_eq_getElem_cons hkl
    obtain ⟨qa, qt⟩ := hq ts[k] (List.getElem_mem hkl)
    have he : ts[k] = ⟨q, ts[k].n, ts[k].k, q, ts[k].tn⟩ := by
      generalize ts[k] = d at qa qt
      cases d
      simp only at qa qt
      subst qa
      rw [qt]
    rw [hdr, List.foldl_cons]
    rw [he] at hd
    have hd2 : stepG g ⟨q, ts[k].n, ts[k].k, q, ts[k].tn⟩ = stepG g ts[k] := congrArg (stepG g) he.symm
    refine runs_loop ?_
    refine runs_seq (runs_region ?_)
    refine ops_q (v := .lit (.bool true)) (fs := []) rfl (by simp only [quiet, e58, e59]; exact congrArg one (lssT (Int.ofNat_lt.2 hkl))) rfl rfl ?_
    refine ops_nil ?_
    refine runs_seq (runs_cond true rfl (runs_skip ?_))
    refine runs_seq (runs_block ((g2_body Γ q _ _ _ ts bl M k g hd _ h (by simp only [ev_set]; exact e8) (by simp only [ev_set]; exact e57.trans hv) (by simp only [ev_set]; exact e59) hbl hM hMn).mono ?_))
    rintro o ⟨tm', h', v0, rfl, hs, hM', hold, hnx⟩
    rw [show ∀ fr hp v, atEnd 3 ⟨.normal, fr, hp, v⟩ = ⟨.normal, fr, hp, v⟩ from fun _ _ _ => rfl]
    rw [hd2] at hM'
    have s3 := hs 3 (by decide)
    have s8 := hs 8 (by decide)
    have s57 := hs 57 (by decide)
    have s58 := hs 58 (by decide)
    have s59 := hs 59 (by decide)
    simp only [ev_set] at s3 s8 s57 s58 s59
    have s3 : Fr.ev ⟨tm', 75, []⟩ (.tmp 3) = Fr.ev ⟨tm, 75, []⟩ (.tmp 3) := s3
    have s8 : Fr.ev ⟨tm', 75, []⟩ (.tmp 8) = .map M := s8.trans e8
    have s57 : Fr.ev ⟨tm', 75, []⟩ (.tmp 57) = v := s57.trans e57
    have s58 : Fr.ev ⟨tm', 75, []⟩ (.tmp 58) = .lit (.int .i64 (Int.ofNat ts.length)) := s58.trans e58
    have s59 : Fr.ev ⟨tm', 75, []⟩ (.tmp 59) = .lit (.int .i64 (Int.ofNat k)) := s59.trans e59
    refine runs_region ?_
    refine ops_q (v := .lit (.int .i64 (Int.ofNat (k + 1)))) (fs := []) rfl (by simp only [quiet, s59]; exact congrArg one (addQ (c := Int.ofNat (k + 1)) rfl (by simp only [Int.ofNat_eq_natCast]; omega) (by simp only [Int.ofNat_eq_natCast]; omega))) rfl rfl ?_
    refine ops_q (v := .lit (.int .i64 (Int.ofNat (k + 1)))) (fs := []) rfl rfl rfl rfl ?_
    refine ops_nil ?_
    refine (ih (k + 1) (by omega) _ h' (stepG g ts[k]) ?_ ?_ ?_ ?_ (fun _ => ⟨hv, Nat.lt_of_lt_of_le hbn hnx, (hold bl hbn hMb).trans hbl⟩) hM' (Nat.lt_of_lt_of_le hMn hnx)).mono ?_
    · simp only [ev_set]; exact s8
    · simp only [ev_set]; exact s57
    · simp only [ev_set]; exact s58
    · simp only [ev_set]; rfl
    · rintro o ⟨tm2, h2, v2, rfl, k1, k2, k3, k4, k5⟩
      refine ⟨tm2, h2, v2, rfl, ?_, k2, k3, fun b hb hne => (k4 b (Nat.lt_of_lt_of_le hb hnx) hne).trans (hold b hb hne), Nat.le_trans hnx k5⟩
      rw [k1]
      simp only [ev_set]
      exact s3
end Go.Proofs.YtogagnopkkiniaaGreatDoor.gone
namespace Go.Proofs.YtogagnopkkiniaaGreatDoor.gone
open Go Go.Proofs.YtogagnopkkiniaaGreatDoor.Ev

noncomputable def gTail : Code := seqR (seqR (seqR (bodyOf Tryz.f5)))
theorem clone_two {P : Program} {h : Hp} {f : FuncId} {a b : SV} : cloneE P h f [a, b] = none := by
  unfold cloneE
  split
  · rename_i hh
    simp at hh
  · rfl
theorem told_sort {Γ : Glob} {hp h1 : Hp} {v : SV} {Φ : Out → Prop} (hm : gone.sortW [v, .lit (.func (.func 18) #[] #[])] hp = some [⟨.ret, ⟨.leaf, 0, []⟩, h1, .lit (.tuple #[])⟩]) (h : ∀ fr, Φ ⟨.ret, fr, h1, .lit (.tuple #[])⟩) : Runs Tryz.prog Γ (.call 17 [v, .lit (.func (.func 18) #[] #[])] hp) Φ :=
  runs_told (show theMem 17 [v, .lit (.func (.func 18) #[] #[])] hp = _ from hm) fun o ho => by
    rw [List.mem_singleton.1 ho]
    exact h _
set_option maxHeartbeats 8000000 in
set_option maxRecDepth 20000 in
theorem g_tail (Γ : Glob) (lo B : Nat) (q m : Int) (tk : List D) (h7 : ∀ d ∈ tk, d.k = 7 ∧ d.a = q ∧ d.ta = q) (hlen : tk.length ≤ 1000000) (tm : T SV) (h : Hp) (bl : Nat) (v : SV) (e3 : Fr.ev ⟨tm, 75, []⟩ (.tmp 3) = .ptr B 0) (e5 : Fr.ev ⟨tm, 75, []⟩ (.tmp 5) = v)
    (hB : h.objs.get B = some (.cells (idC q m) 24)) (hBlo : B < lo) (hrow : RowIs h lo bl 42 39 v (tk.map takC)) (hlo : lo ≤ h.next) :
    Runs Tryz.prog Γ (.code gTail none ⟨tm, 75, []⟩ h) fun o => ∃ r, leave Tryz.prog Γ Tryz.f5 o = some [r] ∧ r.v = .lit (.bool ((foldG (sortD tk)).contains m)) ∧ (∀ b, b < lo → r.hp.objs.get b = h.objs.get b) ∧ h.next ≤ r.hp.next := by
  have hcall : ∃ h1 bl', gone.sortW [v, .lit (.func (.func 18) #[] #[])] h = some [⟨.ret, ⟨.leaf, 0, []⟩, h1, .lit (.tuple #[])⟩] ∧ (sortD tk ≠ [] → v = .row bl' 0 (sortD tk).length (sortD tk).length bl' ∧ bl' < h1.next ∧ h1.objs.get bl' = some (.row (((sortD tk).map takC).flatten) 42 (sortD tk).length bl' 39)) ∧ (∀ b, b < lo → h1.objs.get b = h.objs.get b) ∧ h1.next = h.next ∧ (∀ h', lenQ Tryz.prog h' 22 v = some (.lit (.int .i64 (Int.ofNat (sortD tk).length)), [])) ∧ bl' ≠ h1.next := by
    rcases hrow with ⟨rfl, hnil⟩ | ⟨rfl, hb1, hb2, hb3⟩
    · obtain rfl : tk = [] := List.map_eq_nil_iff.1 hnil
      have hs0 : sortD [] = [] := List.eq_nil_of_length_eq_zero (sortD_len [])
      refine ⟨h, h.next + 1, sortW_nil h, fun hne => absurd hs0 hne, fun _ _ => rfl, rfl, fun h' => ?_, by omega⟩
      rw [hs0]
      exact nilDeeds h' none 0
    · rw [List.length_map] at hb3
      rw [List.length_map]
      refine ⟨_, bl, sortW_row (fun d hd => (h7 d hd).1) hlen hb3, fun _ => ⟨by rw [sortD_len], hb2, by rw [sortD_len]; exact get_same⟩, fun b hb => get_ne (by omega), rfl, fun h' => ?_, by show bl ≠ h.next; omega⟩
      rw [sortD_len]
      simp only [lenQ, tyDeeds]
      rfl
  obtain ⟨h1, bl', hm, hr1, hold, hnx, hlenv, hne⟩ := hcall
  have hBn : B < h1.next := by omega
  have hq : ∀ d ∈ sortD tk, d.a = q ∧ d.ta = q := fun d hd => (h7 d ((sortD_perm tk).mem_iff.1 hd)).2
  have hsl : (sortD tk).length ≤ 1000000 := by rw [sortD_len]; exact hlen
  refine runs_seq (runs_region ?_)
  refine ops_q (v := v) (fs := []) rfl (by simp only [quiet, e5]) rfl rfl ?_
  refine ops_c (f := 17) (args := [v, .lit (.func (.func 18) #[] #[])]) rfl rfl rfl clone_two rfl rfl ?_
  refine told_sort hm fun fr => ?_
  refine ops_nil ?_
  refine runs_seq (runs_region ?_)
  refine ops_e (v := .map h1.next) (hp' := ⟨h1.objs.set h1.next (.map [] 0), h1.next + 1⟩) rfl rfl rfl rfl (Nat.le_succ _) rfl rfl ?_
  refine ops_q (v := .map h1.next) (fs := []) rfl rfl rfl rfl ?_
  refine ops_nil ?_
  refine runs_seq (runs_seq (runs_region ?_))
  refine ops_q (v := v) (fs := []) rfl (by simp only [quiet, ev_set, e5] <;> rfl) rfl rfl ?_
  refine ops_q (v := .lit (.int .i64 (Int.ofNat (sortD tk).length))) (fs := []) rfl (hlenv _) rfl rfl ?_
  refine ops_q (v := .lit (.int .i64 (Int.ofNat 0))) (fs := []) rfl rfl rfl rfl ?_
  refine ops_nil ?_
  refine runs_block ((g2_loop Γ q (sortD tk) hq hsl v bl' h1.next hne (sortD tk).length 0 (Nat.zero_add _) _ _ [] ?_ ?_ ?_ ?_ (fun hnn => ⟨(hr1 hnn).1, Nat.lt_succ_of_lt (hr1 hnn).2.1, (get_ne hne).trans (hr1 hnn).2.2⟩) get_same (Nat.lt_succ_self _)).mono ?_)
  · simp only [ev_set]; rfl
  · simp only [ev_set]; rfl
  · simp only [ev_set]; rfl
  · simp only [ev_set]; rfl
  rintro o ⟨tm', h2, v2, rfl, k1, k2, k3, k4, k5⟩
  rw [show ∀ fr hp v, atEnd 2 ⟨.exit 2, fr, hp, v⟩ = ⟨.normal, fr, hp, v⟩ from fun _ _ _ => rfl]
  rw [List.drop_zero] at k3
  have k1 : Fr.ev ⟨tm', 75, []⟩ (.tmp 3) = .ptr B 0 := by
    rw [k1]
    simp only [ev_set]
    exact e3
  have k5 : h1.next + 1 ≤ h2.next := k5
  have k4 : ∀ b, b < h1.next → h2.objs.get b = h1.objs.get b := fun b hb => (k4 b (Nat.lt_succ_of_lt hb) (by omega)).trans (get_ne (by omega))
  have hB2 : h2.objs.get B = some (.cells (idC q m) 24) := (k4 B hBn).trans ((hold B hBlo).trans hB)
  refine runs_seq (runs_region ?_)
  refine ops_q (v := .map h1.next) (fs := []) rfl (by simp only [quiet, k2]) rfl rfl ?_
  refine ops_q (v := .agg (idC q m)) (fs := [.cells B 0 (idC q m)]) rfl (by simp only [quiet, ev_set, k1]; exact load_cut rfl rfl hB2 rfl) rfl rfl ?_
  refine ops_q (v := .lit (.bool ((foldG (sortD tk)).contains m))) (fs := [.obj h1.next (.map (mapG q (foldG (sortD tk)) 0) (foldG (sortD tk)).length)]) rfl (by simp only [quiet, ev_set]; exact lookupG k3 rfl) rfl rfl ?_
  refine ops_q (v := .lit (.bool ((foldG (sortD tk)).contains m))) (fs := []) rfl rfl rfl rfl ?_
  refine ops_nil ?_
  refine runs_ret ?_
  exact ⟨_, rfl, rfl, fun b hb => (k4 b (by omega)).trans (hold b hb), by show h.next ≤ h2.next; omega⟩

theorem fold_G (ds : List D) (q m : Int) : (foldG (sortD (taks q ds))).contains m = G ds q m := by
  have h := fold_gone (l := ds) (t := sortD (taks q ds)) (q := q) (fun d => by rw [(sortD_perm _).mem_iff, taks, List.mem_filter]) (sortD_sorted _) m
  rw [Bool.eq_iff_iff, ← h, List.contains_iff_mem]

set_option maxHeartbeats 8000000 in
set_option maxRecDepth 20000 in
/-- **What mine.Gone tells.** -/
theorem gone_runs (Γ : Glob) (lo : Nat) (h : Hp) (L : SV) (ds : List D) (q m : Int) (hds : ds.length ≤ 1000000) (hL : Lst Γ lo h L ds) (hlo : lo ≤ h.next) : Runs Tryz.prog Γ (.call 5 [L, .agg (idC q m)] h) fun r => r.v = .lit (.bool (G ds q m)) ∧ Kept lo h r.hp := by
  have hk0 : Kept lo h ⟨h.objs.set h.next (.cells (idC q m) 24), h.next + 1⟩ := ⟨Nat.le_succ _, fun b hb => get_ne (by omega)⟩
  have hL0 := hL.up hk0 (Nat.le_succ_of_le hlo)
  have h7 : ∀ d ∈ taks q ds, d.k = 7 ∧ d.a = q ∧ d.ta = q := fun d hd => by
    have := (List.mem_filter.1 hd).2
    simp only [isT, Bool.and_eq_true, decide_eq_true_eq] at this
    exact ⟨this.1.1.1, this.1.1.2, this.1.2⟩
  have hlen : (taks q ds).length ≤ 1000000 := Nat.le_trans (List.length_filter_le _ _) hds
  refine runs_call Tryz.func5 rfl ?_
  refine runs_seq (runs_region ?_)
  refine ops_e (v := .ptr h.next 0) (hp' := ⟨h.objs.set h.next (.cells (idC q m) 24), h.next + 1⟩) rfl rfl rfl rfl (Nat.le_succ _) rfl rfl ?_
  refine ops_q (v := .lit (.bool false)) (fs := []) rfl rfl rfl rfl ?_
  refine ops_nil ?_
  refine runs_seq (runs_region ?_)
  refine ops_q (v := .lit (.slice none 0 0)) (fs := []) rfl rfl rfl rfl ?_
  refine ops_nil ?_
  refine runs_seq (runs_seq (runs_region ?_))
  refine ops_q (v := L) (fs := []) rfl rfl rfl rfl ?_
  refine ops_q (v := .lit (.int .i64 (Int.ofNat ds.length))) (fs := []) rfl (hL.1 _) rfl rfl ?_
  refine ops_q (v := .lit (.int .i64 (Int.ofNat 0))) (fs := []) rfl rfl rfl rfl ?_
  refine ops_nil ?_
  refine runs_block ((g1_loop Γ (h.next + 1) h.next q m L ds hds (Nat.lt_succ_self _) ds.length 0 (Nat.zero_add _) _ _ (.lit (.slice none 0 0)) 0 rfl rfl rfl rfl rfl hL0 get_same (.inl ⟨rfl, rfl⟩) (Nat.le_refl _)).mono ?_)
  rintro o ⟨tm', h1, v1, rfl, k1, ⟨bl, k2⟩, k3⟩
  rw [show ∀ fr hp v, atEnd 0 ⟨.exit 0, fr, hp, v⟩ = ⟨.normal, fr, hp, v⟩ from fun _ _ _ => rfl]
  have k4 : h.next + 1 ≤ h1.next := k3.next
  refine (g_tail Γ (h.next + 1) h.next q m (taks q ds) h7 hlen tm' h1 bl _ k1 rfl ((k3.old h.next (Nat.lt_succ_self _)).trans get_same) (Nat.lt_succ_self _) k2 k4).mono ?_
  rintro o ⟨r, hr, hv, hold, hnx⟩
  refine ⟨r, hr, ?_, ⟨by omega, fun b hb => (hold b (by omega)).trans ((k3.old b (by omega)).trans (get_ne (by omega)))⟩⟩
  rw [hv, fold_G]
end Go.Proofs.YtogagnopkkiniaaGreatDoor.gone
