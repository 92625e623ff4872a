/-
  'Seen.Covers'; by the author's gen_snap.py, in the calculus of runs. | 'maps.Collect' OF 'Seen.All'; by the author's gen_snap.py, in the calculus of runs.
-/
import Derived.Test.YtjilmneaeocimaaGreatDoorSpGI
namespace Go.Proofs.YtjilmneaeocimaaGreatDoor.snap
open Go Go.Proofs.YtjilmneaeocimaaGreatDoor.Ev

noncomputable def cvRng : Code := (inBlk (seqR (seqL (seqR (bodyOf Tryz.f10)))))
noncomputable def cvAsg : Code := rngA cvRng
noncomputable def cvBody : Code := rngB cvRng
theorem SeenAt.keptLo {h H : Hp} {b M lo : Nat} {r : List (Int × Int)} (s : SeenAt h b M r) (k : Kept lo h H) (hb : b < lo) (hM : M < lo) : SeenAt H b M r := ⟨s.ob.keptLo k hb, s.mp.elim fun l hl => ⟨l, hl.1.keptLo k hM, hl.2⟩, s.asc, s.good⟩
theorem SeenAt.ltM {h : Hp} {b M : Nat} {r : List (Int × Int)} (s : SeenAt h b M r) : M < h.next := s.mp.elim fun _ hl => hl.1.lt
theorem SeenAt.setNe {h : Hp} {b M c : Nat} {r : List (Int × Int)} {o : AObj} (s : SeenAt h b M r) (h1 : b ≠ c) (h2 : M ≠ c) : SeenAt ⟨h.objs.set c o, h.next⟩ b M r := ⟨s.ob.setNe h1, s.mp.elim fun l hl => ⟨l, hl.1.setNe h2, hl.2⟩, s.asc, s.good⟩
theorem covers_of {r s : List (Int × Int)} (h : ∀ (k : Nat) p, s[k]? = some p → has r p = true) : covers r s = true := by
  simp only [covers, List.all_eq_true]
  intro p hp
  obtain ⟨k, hk⟩ := List.getElem?_of_mem hp
  exact h k p hk
theorem covers_not {r s : List (Int × Int)} {p : Int × Int} {k : Nat} (hk : s[k]? = some p) (h : has r p = false) : covers r s = false := by
  rw [covers, List.all_eq_false]
  exact ⟨p, List.mem_of_getElem? hk, by rw [h]; decide⟩
/-- What holds between two rounds. -/
def CvI (A2 A4 b1 M1 : Nat) (r1 r2 : List (Int × Int)) (h : Hp) (k : Nat) (h' : Hp) : Prop := At h' A2 (.cells [.ptr b1 0] 26) ∧ At h' A4 (.cells [.lit (.bool false)] 4) ∧ SeenAt h' b1 M1 r1 ∧ (∀ j p, j < k → r2[j]? = some p → has r1 p = true) ∧ Kept h.next h h'
def CvQ (A4 : Nat) (r1 r2 : List (Int × Int)) (h h' : Hp) : Prop := At h' A4 (.cells [.lit (.bool false)] 4) ∧ covers r1 r2 = false ∧ Kept h.next h h'
set_option maxHeartbeats 8000000 in
set_option maxRecDepth 20000 in
theorem cv_body (Γ : Glob) (A2 A4 b1 M1 lo : Nat) (r1 r2 : List (Int × Int)) (h : Hp) (tm : T SV) (e2 : Fr.ev ⟨tm, 17, []⟩ (.tmp 2) = .ptr A2 0) (e4 : Fr.ev ⟨tm, 17, []⟩ (.tmp 4) = .ptr A4 0) (hA4 : A4 < lo) (hA4h : h.next ≤ A4) (ro : Option Nat) (k : Nat) (p : Int × Int) (h' : Hp) (hp : r2[k]? = some p) (hi : CvI A2 A4 b1 M1 r1 r2 h k h') :
    Runs Tryz.prog Γ (.code cvBody ro ⟨(((tm.set 9 (.lit (.int .i64 p.1))).set 10 (.lit (.int .i64 p.2))).set 5 (.lit (.int .i64 p.1))).set 6 (.lit (.int .i64 p.2)), 17, []⟩ h') fun o => ((∃ fr v0 H, o = ⟨.normal, fr, H, v0⟩ ∧ CvI A2 A4 b1 M1 r1 r2 h (k + 1) H) ∨ (∃ fr v0 H, o = ⟨.ret, fr, H, v0⟩ ∧ CvQ A4 r1 r2 h H)) ∧ h'.next ≤ o.hp.next ∧ ∀ c, lo ≤ c → c < h'.next → o.hp.objs.get c = h'.objs.get c := by
  obtain ⟨i1, i2, i3, i4, i5⟩ := hi
  cases hh : has r1 (p.1, p.2) with
  | true =>
    refine runs_block ?_
    refine runs_seq ?_
    refine runs_region ?_
    refine ops_q (v := .ptr b1 0) (fs := [.cells A2 0 [.ptr b1 0]]) rfl (by simp only [quiet, ev_set, e2]; exact load_cell rfl i1.get rfl) rfl rfl ?_
    refine ops_q (v := .lit (.int .i64 p.1)) (fs := []) rfl rfl rfl rfl ?_
    refine ops_q (v := .lit (.int .i64 p.2)) (fs := []) rfl rfl rfl rfl ?_
    refine ops_q (v := .agg [.lit (.int .i64 p.1), .lit (.int .i64 p.2)]) (fs := []) rfl rfl rfl rfl ?_
    refine ops_c (f := 20) (args := [.ptr b1 0, .agg [.lit (.int .i64 p.1), .lit (.int .i64 p.2)]]) rfl rfl rfl (clone_body Tryz.func20 rfl) rfl rfl ?_
    refine ((has_runs Γ b1 M1 r1 p.1 p.2 h' i3).mono fun r hr => (⟨hr.1.trans (by rw [hh]), hr.2⟩ : Tells h' (.lit (.bool true)) r)).mono ?_
    rintro ⟨ex1, fr1, H1, v1⟩ ⟨hv1, k1⟩
    have hv1 : v1 = .lit (.bool true) := hv1
    subst hv1
    have k1 : Kept h'.next h' H1 := k1
    have i1_1 := i1.kept k1
    have i2_1 := i2.kept k1
    have i3_1 := i3.kept k1
    refine ops_q (v := .lit (.bool false)) (fs := []) rfl rfl rfl rfl ?_
    refine ops_nil ?_
    refine runs_cond false rfl ?_
    refine runs_skip ?_
    rw [show ∀ fr hp v, atEnd 1 ⟨.normal, fr, hp, v⟩ = ⟨.normal, fr, hp, v⟩ from fun _ _ _ => rfl]
    refine ⟨.inl ⟨_, _, _, rfl, i1_1, i2_1, i3_1, fun j q hj hq => ?_, i5.trans ((k1).less i5.next)⟩, (k1).next, fun c _ hc => (k1).old c hc⟩
    by_cases e : j = k
    · rw [e, hp] at hq
      obtain rfl := Option.some.inj hq
      exact hh
    · exact i4 j q (by omega) hq
  | false =>
    refine runs_block ?_
    refine runs_seq ?_
    refine runs_region ?_
    refine ops_q (v := .ptr b1 0) (fs := [.cells A2 0 [.ptr b1 0]]) rfl (by simp only [quiet, ev_set, e2]; exact load_cell rfl i1.get rfl) rfl rfl ?_
    refine ops_q (v := .lit (.int .i64 p.1)) (fs := []) rfl rfl rfl rfl ?_
    refine ops_q (v := .lit (.int .i64 p.2)) (fs := []) rfl rfl rfl rfl ?_
    refine ops_q (v := .agg [.lit (.int .i64 p.1), .lit (.int .i64 p.2)]) (fs := []) rfl rfl rfl rfl ?_
    refine ops_c (f := 20) (args := [.ptr b1 0, .agg [.lit (.int .i64 p.1), .lit (.int .i64 p.2)]]) rfl rfl rfl (clone_body Tryz.func20 rfl) rfl rfl ?_
    refine ((has_runs Γ b1 M1 r1 p.1 p.2 h' i3).mono fun r hr => (⟨hr.1.trans (by rw [hh]), hr.2⟩ : Tells h' (.lit (.bool false)) r)).mono ?_
    rintro ⟨ex1, fr1, H1, v1⟩ ⟨hv1, k1⟩
    have hv1 : v1 = .lit (.bool false) := hv1
    subst hv1
    have k1 : Kept h'.next h' H1 := k1
    have i1_1 := i1.kept k1
    have i2_1 := i2.kept k1
    have i3_1 := i3.kept k1
    refine ops_q (v := .lit (.bool true)) (fs := []) rfl rfl rfl rfl ?_
    refine ops_nil ?_
    refine runs_cond true rfl ?_
    refine runs_seq ?_
    refine runs_region ?_
    refine ops_e0 (v := .lit undef) (hp' := ⟨H1.objs.set A4 (.cells [.lit (.bool false)] 4), H1.next⟩) rfl rfl rfl (store_one (v := .lit (.bool false)) (w := .lit (.bool false)) rfl (by simp only [ev_set]; exact e4) rfl rfl i2_1.get) (Nat.le_refl _) rfl ?_
    refine ops_nil ?_
    refine runs_ret ?_
    rw [show ∀ fr hp v, atEnd 1 ⟨.ret, fr, hp, v⟩ = ⟨.ret, fr, hp, v⟩ from fun _ _ _ => rfl]
    exact ⟨.inr ⟨_, _, _, rfl, i2_1.set, covers_not hp hh, ⟨(i5.trans ((k1).less i5.next)).next, fun c hc => (get_ne (Nat.ne_of_lt (Nat.lt_of_lt_of_le hc hA4h))).trans ((i5.trans ((k1).less i5.next)).old c hc)⟩⟩, (k1).next, fun c h1 hc => (get_ne (Nat.ne_of_gt (Nat.lt_of_lt_of_le hA4 h1))).trans ((k1).old c hc)⟩

set_option maxHeartbeats 8000000 in
set_option maxRecDepth 20000 in
theorem covers_runs (Γ : Glob) (h : Hp) (b1 M1 : Nat) (v2 : SV) (r1 r2 : List (Int × Int)) (hr : r2.length ≤ 1000000) (hs1 : SeenAt h b1 M1 r1) (hs2 : SeenV h v2 r2) : Runs Tryz.prog Γ (.call 10 [.ptr b1 0, v2] h) (Tells h (.lit (.bool (covers r1 r2)))) := by
  refine runs_call Tryz.func10 rfl ?_
  refine runs_seq ?_
  refine runs_region ?_
  refine ops_box (cs := [.ptr b1 0]) rfl rfl rfl rfl rfl (fun H1 g1 k1 n1 => ?_)
  have hs1_1 := hs1.kept k1
  have hs2_1 := hs2.kept k1
  refine ops_alloc (z := .bool false) rfl rfl rfl rfl rfl (fun H2 g2 k2 n2 => ?_)
  have hs1_2 := hs1_1.kept k2
  have hs2_2 := hs2_1.kept k2
  have g1_2 := g1.kept k2
  refine ops_nil ?_
  refine runs_seq (runs_seq ?_)
  refine runs_region ?_
  refine ops_q (v := v2) (fs := []) rfl rfl rfl rfl ?_
  refine ops_c (f := 19) (args := [v2]) rfl rfl rfl (clone_body Tryz.func19 rfl) rfl rfl ?_
  refine (all_runs Γ v2 hs2_2.cell H2).mono ?_
  rintro ⟨ex3, fr3, H3, v3⟩ ⟨hv3, k3, g3⟩
  have hv3 : v3 = .func (.func 30) [] [.ptr H2.next 0] := hv3
  subst hv3
  have k3 : Kept H2.next H2 H3 := k3
  have g3 : At H3 H2.next (.cells [v2] 26) := g3
  have hs1_3 := hs1_2.kept k3
  have hs2_3 := hs2_2.kept k3
  have g1_3 := g1_2.kept k3
  have g2_3 := g2.kept k3
  refine ops_nil ?_
  generalize hT : (((((T.ofList [.ptr b1 0, v2] 0 .leaf).set 2 (.ptr h.next 0)).set 4 (.ptr H1.next 0)).set 7 (v2)).set 8 (.func (.func 30) [] [.ptr H2.next 0])) = tm
  have e2 : Fr.ev ⟨tm, 17, []⟩ (.tmp 2) = .ptr h.next 0 := by rw [← hT]; rfl
  have e4 : Fr.ev ⟨tm, 17, []⟩ (.tmp 4) = .ptr H1.next 0 := by rw [← hT]; rfl
  have e8 : Fr.ev ⟨tm, 17, []⟩ (.tmp 8) = .func (.func 30) [] [.ptr H2.next 0] := by rw [← hT]; rfl
  have a1 := g1_3.lt
  have a2 := g2_3.lt
  have a3 := hs1_3.ob.lt
  have a4 := hs1_3.ltM
  refine runs_block (range_all (C := H2.next) (v := v2) (r := r2) (CvI h.next H1.next b1 M1 r1 r2 h) (CvQ H1.next r1 r2 h) (fun p => (((tm.set 9 (.lit (.int .i64 p.1))).set 10 (.lit (.int .i64 p.2))).set 5 (.lit (.int .i64 p.1))).set 6 (.lit (.int .i64 p.2))) hr rfl rfl e8 g3 hs2_3 ?_ ?_ ?_ ?_ ?_ ?_ ?_)
  · exact fun k h1 h2 ⟨i1, i2, i3, i4, i5⟩ hk => ⟨i1.keptLo hk a1, i2.keptLo hk a2, i3.keptLo hk a3 a4, i4, i5.trans (hk.less (show h.next ≤ H3.next from by have := k1.next; have := k2.next; have := k3.next; omega))⟩
  · exact fun h1 h2 ⟨i1, i2, i3⟩ hk => ⟨i1.keptLo hk a2, i2, i3.trans (hk.less (show h.next ≤ H3.next from by have := k1.next; have := k2.next; have := k3.next; omega))⟩
  · exact ⟨g1_3, g2_3, hs1_3, fun j p hj => absurd hj (Nat.not_lt_zero j), k1.then (k2.then k3)⟩
  · intro p h'
    refine runs_seq ?_
    refine runs_region ?_
    refine ops_q (v := .lit (.int .i64 p.1)) (fs := []) rfl rfl rfl rfl ?_
    refine ops_nil ?_
    refine runs_region ?_
    refine ops_q (v := .lit (.int .i64 p.2)) (fs := []) rfl rfl rfl rfl ?_
    refine ops_nil ?_
    exact ⟨_, rfl⟩
  · exact fun k p h' hp hlo hi => cv_body Γ h.next H1.next b1 M1 H3.next r1 r2 h tm e2 e4 a2 k1.next _ k p h' hp hi
  · intro h' v0 ⟨j1, j2, j3, j4, j5⟩ hD
    have hcov : covers r1 r2 = true := covers_of fun k p hp => j4 k p (List.getElem?_eq_some_iff.1 hp).1 hp
    rw [hcov]
    have e4D : Fr.ev ⟨tm, 17, [H3.next]⟩ (.tmp 4) = .ptr H1.next 0 := e4
    have hne : H1.next ≠ H3.next := Nat.ne_of_lt a2
    rw [show ∀ fr hp v, atEnd 0 ⟨.normal, fr, hp, v⟩ = ⟨.normal, fr, hp, v⟩ from fun _ _ _ => rfl]
    refine runs_seq ?_
    refine runs_region ?_
    refine ops_e0 (v := .lit undef) (hp' := ⟨h'.objs.set H1.next (.cells [.lit (.bool true)] 4), h'.next⟩) rfl rfl rfl (store_one (v := .lit (.bool true)) (w := .lit (.bool false)) rfl e4D rfl rfl j2.get) (Nat.le_refl _) rfl ?_
    refine ops_nil ?_
    refine runs_ret ?_
    refine ⟨_, leave_cell (t := 4) (ty := 4) (a := H1.next) rfl ((get_ne (Ne.symm hne)).trans hD.get) e4D rfl hne get_same, rfl, ⟨j5.next, fun c hc => ?_⟩⟩
    have := k1.next
    have := k2.next
    have := k3.next
    exact (get_ne (show c ≠ H3.next by omega)).trans ((get_ne (show c ≠ H1.next by omega)).trans (j5.old c hc))
  · intro h' v0 ⟨j1, j2, j3⟩ hD
    rw [j2]
    have e4D : Fr.ev ⟨tm, 17, [H3.next]⟩ (.tmp 4) = .ptr H1.next 0 := e4
    have hne : H1.next ≠ H3.next := Nat.ne_of_lt a2
    rw [show ∀ fr hp v, atEnd 0 ⟨.ret, fr, hp, v⟩ = ⟨.ret, fr, hp, v⟩ from fun _ _ _ => rfl]
    refine ⟨_, leave_cell (t := 4) (ty := 4) (a := H1.next) rfl hD.get e4D rfl hne j1.get, rfl, ⟨j3.next, fun c hc => ?_⟩⟩
    have := k1.next
    have := k2.next
    have := k3.next
    exact (get_ne (show c ≠ H3.next by omega)).trans (j3.old c hc)

end Go.Proofs.YtjilmneaeocimaaGreatDoor.snap
namespace Go.Proofs.YtjilmneaeocimaaGreatDoor.snap
open Go Go.Proofs.YtjilmneaeocimaaGreatDoor.Ev

noncomputable def inRng : Code := (inBlk (seqR (seqR (bodyOf Tryz.f29))))
noncomputable def inAsg : Code := rngA inRng
noncomputable def inBody : Code := rngB inRng
theorem putL_new {a n : Int} : ∀ {l : List (Int × Int)}, a ∉ keys l → putL l a n = l ++ [(a, n)]
  | [], _ => rfl
  | p :: l, h => by
    have hne : p.1 ≠ a := fun e => h (by rw [← e]; exact List.mem_cons_self ..)
    rw [putL, if_neg hne, putL_new fun hm => h (List.mem_cons_of_mem _ hm), List.cons_append]
theorem take_new {r : List (Int × Int)} {k : Nat} {p : Int × Int} (ha : Asc r) (hp : r[k]? = some p) : p.1 ∉ keys (r.take k) := by
  intro h
  obtain ⟨q, hq, e⟩ := List.mem_map.1 h
  obtain ⟨j, hj⟩ := List.getElem?_of_mem hq
  have hjk : j < k := by
    have := (List.getElem?_eq_some_iff.1 hj).1
    rw [List.length_take] at this
    omega
  rw [List.getElem?_take_of_lt hjk] at hj
  obtain ⟨h1, e1⟩ := List.getElem?_eq_some_iff.1 hj
  obtain ⟨h2, e2⟩ := List.getElem?_eq_some_iff.1 hp
  have := (List.pairwise_iff_getElem.1 ha) j k h1 h2 hjk
  rw [e1, e2, e] at this
  exact absurd this (Int.lt_irrefl _)
theorem take_put {r : List (Int × Int)} {k : Nat} {p : Int × Int} (ha : Asc r) (hp : r[k]? = some p) : putL (r.take k) p.1 p.2 = r.take (k + 1) := by
  rw [putL_new (take_new ha hp)]
  obtain ⟨h2, e2⟩ := List.getElem?_eq_some_iff.1 hp
  rw [← e2]
  exact List.take_append_getElem h2
theorem take_len {r : List (Int × Int)} {k : Nat} {p : Int × Int} (hp : r[k]? = some p) : (r.take k).length = k := by
  have := (List.getElem?_eq_some_iff.1 hp).1
  rw [List.length_take]
  omega
def InI (A2 Mn : Nat) (r : List (Int × Int)) (h : Hp) (k : Nat) (h' : Hp) : Prop := At h' A2 (.cells [.map Mn] 49) ∧ At h' Mn (.map (ent (r.take k) 0) (r.take k).length) ∧ (∀ c, c < h.next → c ≠ Mn → h'.objs.get c = h.objs.get c) ∧ h.next ≤ h'.next
set_option maxHeartbeats 8000000 in
set_option maxRecDepth 20000 in
theorem in_body (Γ : Glob) (A2 Mn lo : Nat) (r : List (Int × Int)) (ha : Asc r) (h : Hp) (hne : A2 ≠ Mn) (hMn : Mn < lo) (tm : T SV) (e2 : Fr.ev ⟨tm, 12, []⟩ (.tmp 2) = .ptr A2 0) (ro : Option Nat) (k : Nat) (p : Int × Int) (h' : Hp) (hp : r[k]? = some p) (hi : InI A2 Mn r h k h') :
    Runs Tryz.prog Γ (.code inBody ro ⟨(((tm.set 7 (.lit (.int .i64 p.1))).set 8 (.lit (.int .i64 p.2))).set 4 (.lit (.int .i64 p.1))).set 5 (.lit (.int .i64 p.2)), 12, []⟩ h') fun o => ((∃ fr v0 H, o = ⟨.normal, fr, H, v0⟩ ∧ InI A2 Mn r h (k + 1) H) ∨ (∃ fr v0 H, o = ⟨.ret, fr, H, v0⟩ ∧ False)) ∧ h'.next ≤ o.hp.next ∧ ∀ c, lo ≤ c → c < h'.next → o.hp.objs.get c = h'.objs.get c := by
  obtain ⟨i1, i2, i3, i4⟩ := hi
  have hup : mapUpdateE Tryz.prog h' 49 (.map Mn) (.lit (.int .i64 p.1)) (.lit (.int .i64 p.2)) = some (h'.upd Mn (.map (ent (r.take (k + 1)) 0) (r.take (k + 1)).length)) := by
    have := updateI (a := p.1) (n := p.2) i2.get
    rw [take_put ha hp] at this
    exact this
  refine runs_block ?_
  refine runs_region ?_
  refine ops_q (v := .map Mn) (fs := [.cells A2 0 [.map Mn]]) rfl (by simp only [quiet, ev_set, e2]; exact load_cell rfl i1.get rfl) rfl rfl ?_
  refine ops_q (v := .lit (.int .i64 p.1)) (fs := []) rfl rfl rfl rfl ?_
  refine ops_q (v := .lit (.int .i64 p.2)) (fs := []) rfl rfl rfl rfl ?_
  refine ops_e0 (v := .lit undef) (hp' := h'.upd Mn (.map (ent (r.take (k + 1)) 0) (r.take (k + 1)).length)) rfl rfl rfl (by simp only [effect, ev_set]; exact congrArg Ev.unit hup) (Nat.le_refl _) rfl ?_
  refine ops_nil ?_
  rw [show ∀ fr hp v, atEnd 1 ⟨.normal, fr, hp, v⟩ = ⟨.normal, fr, hp, v⟩ from fun _ _ _ => rfl]
  exact ⟨.inl ⟨_, _, _, rfl, ⟨i1.lt, (get_ne hne).trans i1.get⟩, ⟨i2.lt, get_same⟩, fun c hc hcn => (get_ne hcn).trans (i3 c hc hcn), i4⟩, Nat.le_refl _, fun c hc _ => get_ne (Nat.ne_of_gt (Nat.lt_of_lt_of_le hMn hc))⟩

set_option maxHeartbeats 8000000 in
set_option maxRecDepth 20000 in
theorem insert_runs (Γ : Glob) (h : Hp) (Mn C : Nat) (v : SV) (r : List (Int × Int)) (hr : r.length ≤ 1000000) (hC : At h C (.cells [v] 26)) (hs : SeenV h v r) (hM : At h Mn (.map [] 0)) :
    Runs Tryz.prog Γ (.call 29 [.map Mn, .func (.func 30) [] [.ptr C 0]] h) fun o => At o.hp Mn (.map (ent r 0) r.length) ∧ (∀ c, c < h.next → c ≠ Mn → o.hp.objs.get c = h.objs.get c) ∧ h.next ≤ o.hp.next := by
  refine runs_call Tryz.func29 rfl ?_
  refine runs_seq ?_
  refine runs_region ?_
  refine ops_box (cs := [.map Mn]) rfl rfl rfl rfl rfl (fun H1 g1 k1 n1 => ?_)
  have hC_1 := hC.kept k1
  have hs_1 := hs.kept k1
  have hM_1 := hM.kept k1
  refine ops_nil ?_
  refine runs_seq ?_
  refine runs_region ?_
  refine ops_q (v := .func (.func 30) [] [.ptr C 0]) (fs := []) rfl rfl rfl rfl ?_
  refine ops_nil ?_
  generalize hT : (((T.ofList [SV.map Mn, .func (.func 30) [] [.ptr C 0]] 0 .leaf).set 2 (.ptr h.next 0)).set 6 (.func (.func 30) [] [.ptr C 0])) = tm
  have e2 : Fr.ev ⟨tm, 12, []⟩ (.tmp 2) = .ptr h.next 0 := by rw [← hT]; rfl
  have e6 : Fr.ev ⟨tm, 12, []⟩ (.tmp 6) = .func (.func 30) [] [.ptr C 0] := by rw [← hT]; rfl
  have a1 := g1.lt
  have a2 := hM_1.lt
  have a3 := hM.lt
  have hne : h.next ≠ Mn := Nat.ne_of_gt a3
  refine runs_block (range_all (C := C) (v := v) (r := r) (InI h.next Mn r h) (fun _ => False) (fun p => (((tm.set 7 (.lit (.int .i64 p.1))).set 8 (.lit (.int .i64 p.2))).set 4 (.lit (.int .i64 p.1))).set 5 (.lit (.int .i64 p.2))) hr rfl rfl e6 hC_1 hs_1 ?_ ?_ ?_ ?_ ?_ ?_ ?_)
  · exact fun k h1 h2 ⟨i1, i2, i3, i4⟩ hk => ⟨i1.keptLo hk a1, i2.keptLo hk a2, fun c hc hcn => (hk.old c (by have := k1.next; first | omega | (dsimp only; omega))).trans (i3 c hc hcn), Nat.le_trans i4 hk.next⟩
  · exact fun h1 h2 hf _ => hf
  · exact ⟨g1, hM_1, fun c hc _ => k1.old c hc, k1.next⟩
  · intro p h'
    refine runs_seq ?_
    refine runs_region ?_
    refine ops_q (v := .lit (.int .i64 p.1)) (fs := []) rfl rfl rfl rfl ?_
    refine ops_nil ?_
    refine runs_region ?_
    refine ops_q (v := .lit (.int .i64 p.2)) (fs := []) rfl rfl rfl rfl ?_
    refine ops_nil ?_
    exact ⟨_, rfl⟩
  · exact fun k p h' hp hlo hi => in_body Γ h.next Mn H1.next r hs.asc h hne a2 tm e2 _ k p h' hp hi
  · intro h' v0 ⟨j1, j2, j3, j4⟩ hD
    rw [List.take_length] at j2
    rw [show ∀ fr hp v, atEnd 0 ⟨.normal, fr, hp, v⟩ = ⟨.normal, fr, hp, v⟩ from fun _ _ _ => rfl]
    have hD : At h' H1.next (.deferred true) := hD
    refine ⟨⟨.ret, ⟨tm, 12, [H1.next]⟩, h'.upd H1.next (.deferred false), .tuple []⟩, ?_, ⟨j2.lt, (get_ne (Nat.ne_of_lt a2)).trans j2.get⟩, fun c hc hcn => (get_ne (by have := k1.next; first | omega | (dsimp only; omega))).trans (j3 c hc hcn), j4⟩
    show leave Tryz.prog Γ Tryz.f29 ⟨.normal, ⟨tm, 12, [H1.next]⟩, h', v0⟩ = _
    simp only [leave, shutMarks, hD.get]
    rfl
  · exact fun h' v0 hf _ => hf.elim

set_option maxHeartbeats 8000000 in
set_option maxRecDepth 20000 in
theorem collectM_runs (Γ : Glob) (h : Hp) (C : Nat) (v : SV) (r : List (Int × Int)) (hr : r.length ≤ 1000000) (hC : At h C (.cells [v] 26)) (hs : SeenV h v r) :
    Runs Tryz.prog Γ (.call 18 [.func (.func 30) [] [.ptr C 0]] h) fun o => o.v = .map h.next ∧ At o.hp h.next (.map (ent r 0) r.length) ∧ Kept h.next h o.hp := by
  refine runs_call Tryz.func18 rfl ?_
  refine runs_seq ?_
  refine runs_region ?_
  refine ops_q (v := .lit (.map none)) (fs := []) rfl rfl rfl rfl ?_
  refine ops_nil ?_
  refine runs_seq ?_
  refine runs_region ?_
  refine ops_mkmap rfl rfl rfl rfl rfl (fun H1 g1 k1 n1 => ?_)
  have hC_1 := hC.kept k1
  have hs_1 := hs.kept k1
  refine ops_q (v := .map h.next) (fs := []) rfl rfl rfl rfl ?_
  refine ops_nil ?_
  refine runs_seq ?_
  refine runs_region ?_
  refine ops_q (v := .map h.next) (fs := []) rfl rfl rfl rfl ?_
  refine ops_q (v := .func (.func 30) [] [.ptr C 0]) (fs := []) rfl rfl rfl rfl ?_
  refine ops_c (f := 29) (args := [.map h.next, .func (.func 30) [] [.ptr C 0]]) rfl rfl rfl (clone_body Tryz.func29 rfl) rfl rfl ?_
  refine (insert_runs Γ H1 h.next C v r hr hC_1 hs_1 g1).mono ?_
  rintro ⟨ex, fr, H2, v2⟩ ⟨q1, q2, q3⟩
  refine ops_nil ?_
  refine runs_seq ?_
  refine runs_region ?_
  refine ops_q (v := .map h.next) (fs := []) rfl rfl rfl rfl ?_
  refine ops_q (v := .map h.next) (fs := []) rfl rfl rfl rfl ?_
  refine ops_nil ?_
  refine runs_ret ?_
  exact ⟨_, rfl, rfl, q1, ⟨Nat.le_trans k1.next q3, fun c hc => (q2 c (Nat.lt_of_lt_of_le hc k1.next) (Nat.ne_of_lt hc)).trans (k1.old c hc)⟩⟩

end Go.Proofs.YtjilmneaeocimaaGreatDoor.snap
