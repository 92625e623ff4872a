/-
  'snap.Stable': its inner range; by the author's gen_snap.py, in the calculus of runs. | 'snap.Stable': a round of its loop, and the loop; by the author's gen_snap.py, in the calculus of runs.
-/
import Derived.Test.YtjilmneaeocimaaGreatDoorSpGK
namespace Go.Proofs.YtjilmneaeocimaaGreatDoor.snap
open Go Go.Proofs.YtjilmneaeocimaaGreatDoor.Ev

noncomputable def stLoop : Code := (inBlk (seqR (seqL (seqR (seqR (seqR (seqR (bodyOf Tryz.f7))))))))
noncomputable def stB : Code := (inBlk (seqL (seqR (seqR (inLoop stLoop)))))
noncomputable def stRng : Code := (inBlk (seqR (seqL (seqR (seqR stB)))))
noncomputable def stAsg : Code := rngA stRng
noncomputable def stBody : Code := rngB stRng
noncomputable def stOut : Code := (inBlk (seqR (seqL (seqR (seqR (seqR (seqR (seqR (bodyOf Tryz.f7)))))))))
theorem minQ (P : Program) (a b : Int) : pureRun P (Builtin.min_ #[3, 3] 0 #[.int .i64 a, .int .i64 b]) = some (.int .i64 (min a b)) := by
  have h : (if b < a then b else a) = min a b := by
    by_cases hh : b < a
    · rw [if_pos hh]; omega
    · rw [if_neg hh]; omega
  rw [← h]
  rfl
theorem min_quiet {Γ : Glob} {h : Hp} {ρ : Operand → SV} {x y : Operand} {a b : Int} (hx : ρ x = .lit (.int .i64 a)) (hy : ρ y = .lit (.int .i64 b)) : quiet Tryz.prog Γ h ρ (.call ⟨.builtin .min, #[x, y], #[3, 3]⟩) = some (.lit (.int .i64 (min a b)), []) := by
  simp only [quiet, List.map_cons, List.map_nil, hx, hy, SV.toLitL, SV.toLit]
  show one ((pureRun Tryz.prog (Builtin.min_ #[3, 3] 0 #[.int .i64 a, .int .i64 b])).map .lit) = _
  rw [minQ]
  rfl
theorem minR_keys {q r : List (Int × Int)} {k : Nat} {p : Int × Int} (ha : Asc r) (hp : r[k]? = some p) : p.1 ∉ keys (minR q (r.take k)) := by
  intro h
  obtain ⟨x, hx, e⟩ := List.mem_map.1 h
  obtain ⟨y, hy, _, rfl⟩ := minR_mem.1 hx
  exact take_new ha hp (List.mem_map.2 ⟨y, hy, e⟩)
theorem take_snoc {r : List (Int × Int)} {k : Nat} {p : Int × Int} (hp : r[k]? = some p) : r.take (k + 1) = r.take k ++ [p] := by
  obtain ⟨h2, e2⟩ := List.getElem?_eq_some_iff.1 hp
  rw [← e2]
  exact (List.take_append_getElem h2).symm
theorem minR_yes {q r : List (Int × Int)} {k : Nat} {p : Int × Int} (ha : Asc r) (hp : r[k]? = some p) (h0 : 0 < val q p.1) : putL (minR q (r.take k)) p.1 (min (val q p.1) p.2) = minR q (r.take (k + 1)) := by
  rw [putL_new (minR_keys ha hp), take_snoc hp, minR, minR, List.filterMap_append]
  simp [h0]
theorem minR_no {q r : List (Int × Int)} {k : Nat} {p : Int × Int} (hp : r[k]? = some p) (h0 : ¬ 0 < val q p.1) : minR q (r.take (k + 1)) = minR q (r.take k) := by
  rw [take_snoc hp, minR, minR, List.filterMap_append]
  simp [h0]
/-- What holds between two rounds. -/
def StI (A4 Q A7 Mb : Nat) (q r : List (Int × Int)) (h : Hp) (k : Nat) (h' : Hp) : Prop := At h' A4 (.cells [.map Q] 49) ∧ At h' Q (.map (ent q 0) q.length) ∧ At h' A7 (.cells [.map Mb] 49) ∧ At h' Mb (.map (ent (minR q (r.take k)) 0) (minR q (r.take k)).length) ∧ (∀ c, c < h.next → c ≠ Mb → h'.objs.get c = h.objs.get c) ∧ h.next ≤ h'.next
set_option maxHeartbeats 8000000 in
set_option maxRecDepth 20000 in
theorem st_body (Γ : Glob) (A4 Q A7 Mb lo : Nat) (q r : List (Int × Int)) (ha : Asc r) (h : Hp) (hA4 : A4 ≠ Mb) (hQ : Q ≠ Mb) (hA7 : A7 ≠ Mb) (hMb : Mb < lo) (tm : T SV) (e4 : Fr.ev ⟨tm, 60, []⟩ (.tmp 4) = .ptr A4 0) (e7 : Fr.ev ⟨tm, 60, []⟩ (.tmp 7) = .ptr A7 0) (ro : Option Nat) (k : Nat) (p : Int × Int) (h' : Hp) (hp : r[k]? = some p) (hi : StI A4 Q A7 Mb q r h k h') :
    Runs Tryz.prog Γ (.code stBody ro ⟨(((tm.set 33 (.lit (.int .i64 p.1))).set 34 (.lit (.int .i64 p.2))).set 8 (.lit (.int .i64 p.1))).set 9 (.lit (.int .i64 p.2)), 60, []⟩ h') fun o => ((∃ fr v0 H, o = ⟨.normal, fr, H, v0⟩ ∧ StI A4 Q A7 Mb q r h (k + 1) H) ∨ (∃ fr v0 H, o = ⟨.ret, fr, H, v0⟩ ∧ False)) ∧ h'.next ≤ o.hp.next ∧ ∀ c, lo ≤ c → c < h'.next → o.hp.objs.get c = h'.objs.get c := by
  obtain ⟨i1, i2, i3, i4, i5, i6⟩ := hi
  by_cases h0 : 0 < val q p.1
  · have hup : mapUpdateE Tryz.prog h' 49 (.map Mb) (.lit (.int .i64 p.1)) (.lit (.int .i64 (min (val q p.1) p.2))) = some (h'.upd Mb (.map (ent (minR q (r.take (k + 1))) 0) (minR q (r.take (k + 1))).length)) := by
      have := updateI (a := p.1) (n := min (val q p.1) p.2) i4.get
      rw [minR_yes ha hp h0] at this
      exact this
    refine runs_block ?_
    refine runs_seq ?_
    refine runs_region ?_
    refine ops_q (v := .map Q) (fs := [.cells A4 0 [.map Q]]) rfl (by simp only [quiet, ev_set, e4]; exact load_cell rfl i1.get rfl) rfl rfl ?_
    refine ops_q (v := .lit (.int .i64 p.1)) (fs := []) rfl rfl rfl rfl ?_
    refine ops_q (v := .lit (.int .i64 (val q p.1))) (fs := [.obj Q (.map (ent q 0) q.length)]) rfl (by simp only [quiet, ev_set]; exact lookupI i2.get) rfl rfl ?_
    refine ops_q (v := .lit (.int .i64 (val q p.1))) (fs := []) rfl rfl rfl rfl ?_
    refine ops_nil ?_
    refine runs_seq ?_
    refine runs_region ?_
    refine ops_q (v := .lit (.int .i64 (val q p.1))) (fs := []) rfl rfl rfl rfl ?_
    refine ops_q (v := .lit (.bool true)) (fs := []) rfl (by simp only [quiet, ev_set]; exact congrArg one (gtrT h0)) rfl rfl ?_
    refine ops_nil ?_
    refine runs_cond true rfl ?_
    refine runs_region ?_
    refine ops_q (v := .map Mb) (fs := [.cells A7 0 [.map Mb]]) rfl (by simp only [quiet, ev_set, e7]; exact load_cell rfl i3.get rfl) rfl rfl ?_
    refine ops_q (v := .lit (.int .i64 p.1)) (fs := []) rfl rfl rfl rfl ?_
    refine ops_q (v := .lit (.int .i64 (val q p.1))) (fs := []) rfl rfl rfl rfl ?_
    refine ops_q (v := .lit (.int .i64 p.2)) (fs := []) rfl rfl rfl rfl ?_
    refine ops_q (v := .lit (.int .i64 (min (val q p.1) p.2))) (fs := []) rfl (min_quiet (by simp only [ev_set] <;> rfl) (by simp only [ev_set] <;> rfl)) rfl rfl ?_
    refine ops_e0 (v := .lit undef) (hp' := h'.upd Mb (.map (ent (minR q (r.take (k + 1))) 0) (minR q (r.take (k + 1))).length)) rfl rfl rfl (by simp only [effect, ev_set]; exact congrArg Ev.unit hup) (Nat.le_refl _) rfl ?_
    refine ops_nil ?_
    rw [show ∀ fr hp v, atEnd 3 ⟨.normal, fr, hp, v⟩ = ⟨.normal, fr, hp, v⟩ from fun _ _ _ => rfl]
    exact ⟨.inl ⟨_, _, _, rfl, ⟨i1.lt, (get_ne hA4).trans i1.get⟩, ⟨i2.lt, (get_ne hQ).trans i2.get⟩, ⟨i3.lt, (get_ne hA7).trans i3.get⟩, ⟨i4.lt, get_same⟩, fun c hc hcn => (get_ne hcn).trans (i5 c hc hcn), i6⟩, Nat.le_refl _, fun c hc _ => get_ne (Nat.ne_of_gt (Nat.lt_of_lt_of_le hMb hc))⟩
  · have hsame := minR_no hp h0
    refine runs_block ?_
    refine runs_seq ?_
    refine runs_region ?_
    refine ops_q (v := .map Q) (fs := [.cells A4 0 [.map Q]]) rfl (by simp only [quiet, ev_set, e4]; exact load_cell rfl i1.get rfl) rfl rfl ?_
    refine ops_q (v := .lit (.int .i64 p.1)) (fs := []) rfl rfl rfl rfl ?_
    refine ops_q (v := .lit (.int .i64 (val q p.1))) (fs := [.obj Q (.map (ent q 0) q.length)]) rfl (by simp only [quiet, ev_set]; exact lookupI i2.get) rfl rfl ?_
    refine ops_q (v := .lit (.int .i64 (val q p.1))) (fs := []) rfl rfl rfl rfl ?_
    refine ops_nil ?_
    refine runs_seq ?_
    refine runs_region ?_
    refine ops_q (v := .lit (.int .i64 (val q p.1))) (fs := []) rfl rfl rfl rfl ?_
    refine ops_q (v := .lit (.bool false)) (fs := []) rfl (by simp only [quiet, ev_set]; exact congrArg one (gtrF h0)) rfl rfl ?_
    refine ops_nil ?_
    refine runs_cond false rfl ?_
    refine runs_skip ?_
    rw [show ∀ fr hp v, atEnd 3 ⟨.normal, fr, hp, v⟩ = ⟨.normal, fr, hp, v⟩ from fun _ _ _ => rfl]
    exact ⟨.inl ⟨_, _, _, rfl, i1, i2, i3, by rw [hsame]; exact i4, i5, i6⟩, Nat.le_refl _, fun c _ _ => rfl⟩

end Go.Proofs.YtjilmneaeocimaaGreatDoor.snap
namespace Go.Proofs.YtjilmneaeocimaaGreatDoor.snap
open Go Go.Proofs.YtjilmneaeocimaaGreatDoor.Ev

/-- A list of what some have seen: its length is told, and each one can be read, as long as what lies ahead of lo is as it is. -/
def Vb (Γ : Glob) (lo : Nat) (h : Hp) (L : SV) (rs : List (List (Int × Int))) : Prop := (∀ h', lenQ Tryz.prog h' 24 L = some (.lit (.int .i64 (Int.ofNat rs.length)), [])) ∧ ∀ k r, rs[k]? = some r → ∃ p v, indexAddrQ Tryz.prog 24 L (.lit (.int .i64 (Int.ofNat k))) = some p ∧ ∀ h', Kept lo h h' → SeenV h' v r ∧ ∃ fs, loadQ Tryz.prog Γ h' 26 p = some (v, fs)
theorem Vb.kept {Γ : Glob} {lo : Nat} {h H : Hp} {L : SV} {rs : List (List (Int × Int))} (s : Vb Γ lo h L rs) (k : Kept lo h H) : Vb Γ lo H L rs := ⟨s.1, fun j r hr => by
  obtain ⟨p, v, h1, h2⟩ := s.2 j r hr
  exact ⟨p, v, h1, fun h' k' => h2 h' (k.trans k')⟩⟩
def Vs (Γ : Glob) (lo : Nat) (h : Hp) (L : SV) (rs : List (List (Int × Int))) : Prop := Vb Γ lo h L rs ∧ ∀ r rs', rs = r :: rs' → ∃ L', sliceQ Tryz.prog 24 L (some (.lit (.int .i64 1))) none none = some L' ∧ Vb Γ lo h L' rs'
theorem Vs.kept {Γ : Glob} {lo : Nat} {h H : Hp} {L : SV} {rs : List (List (Int × Int))} (s : Vs Γ lo h L rs) (k : Kept lo h H) : Vs Γ lo H L rs := ⟨s.1.kept k, fun r rs' e => by
  obtain ⟨L', h1, h2⟩ := s.2 r rs' e
  exact ⟨L', h1, h2.kept k⟩⟩
/-- Marks of ranges that have ended. -/
def Marks (ms : List Nat) (lo : Nat) (h : Hp) : Prop := ms.Nodup ∧ ∀ D ∈ ms, lo ≤ D ∧ At h D (.deferred true)
theorem Marks.nil (lo : Nat) (h : Hp) : Marks [] lo h := ⟨List.nodup_nil, fun _ hD => by cases hD⟩
theorem Marks.kept {ms : List Nat} {lo : Nat} {h H : Hp} (m : Marks ms lo h) (k : Kept h.next h H) : Marks ms lo H := ⟨m.1, fun D hD => ⟨(m.2 D hD).1, (m.2 D hD).2.kept k⟩⟩
theorem Marks.cons {ms : List Nat} {lo D : Nat} {h : Hp} (m : Marks ms lo h) (hlo : lo ≤ D) (hD : At h D (.deferred true)) (hn : ∀ E ∈ ms, E ≠ D) : Marks (D :: ms) lo h := ⟨List.nodup_cons.2 ⟨fun hm => hn D hm rfl, m.1⟩, fun E hE => by
  rcases List.mem_cons.1 hE with rfl | hE
  · exact ⟨hlo, hD⟩
  · exact m.2 E hE⟩
theorem shut_all : ∀ (ms : List Nat) (h : Hp), ms.Nodup → (∀ D ∈ ms, h.objs.get D = some (.deferred true)) → ∃ h', shutMarks ms h = some h' ∧ h'.next = h.next ∧ ∀ c, c ∉ ms → h'.objs.get c = h.objs.get c
  | [], h, _, _ => ⟨h, rfl, rfl, fun _ _ => rfl⟩
  | D :: ms, h, hn, hd => by
    obtain ⟨n1, n2⟩ := List.nodup_cons.1 hn
    obtain ⟨h', e1, e2, e3⟩ := shut_all ms (h.upd D (.deferred false)) n2 fun E hE => (get_ne (fun e => n1 (by rw [← e]; exact hE))).trans (hd E (List.mem_cons_of_mem _ hE))
    refine ⟨h', ?_, e2, fun c hc => (e3 c fun hm => hc (List.mem_cons_of_mem _ hm)).trans (get_ne fun e => hc (by rw [e]; exact List.mem_cons_self ..))⟩
    simp only [shutMarks, hd D (List.mem_cons_self ..)]
    exact e1
theorem leave_marks {P : Program} {Γ : Glob} {fn : Func} {tm : T SV} {n t : Nat} {ms : List Nat} {h h' : Hp} {v v0 : SV} (hr : fn.results.toList = [.tmp t]) (hs : shutMarks ms h = some h') (he : Fr.ev ⟨tm, n, ms⟩ (.tmp t) = v) : leave P Γ fn ⟨.ret, ⟨tm, n, ms⟩, h, v0⟩ = some [⟨.ret, ⟨tm, n, ms⟩, h', v⟩] := by
  simp only [leave, hs, hr, resultsQ, Option.map_some, he]
set_option maxHeartbeats 8000000 in
set_option maxRecDepth 20000 in
/-- A round of the loop: the less of both. -/
theorem st_round (Γ : Glob) (Sb Sm A4 Q k lo : Nat) (q r : List (Int × Int)) (rs : List (List (Int × Int))) (L' : SV) (hk : rs[k]? = some r) (hr : r.length ≤ 1000000) (ms : List Nat) (tm : T SV) (h : Hp) (_e3 : Fr.ev ⟨tm, 60, ms⟩ (.tmp 3) = .ptr Sb 0) (e4 : Fr.ev ⟨tm, 60, ms⟩ (.tmp 4) = .ptr A4 0) (e24 : Fr.ev ⟨tm, 60, ms⟩ (.tmp 24) = L') (e26 : Fr.ev ⟨tm, 60, ms⟩ (.tmp 26) = .lit (.int .i64 (Int.ofNat k)))
    (hV : Vb Γ lo h L' rs) (i1 : At h A4 (.cells [.map Q] 49)) (i2 : At h Q (.map (ent q 0) q.length)) (hS : SeenAt h Sb Sm []) (hms : Marks ms lo h) (hlo : lo ≤ A4) (hSb : Sb ≠ A4) :
    Runs Tryz.prog Γ (.code stB none ⟨tm, 60, ms⟩ h) fun o => ∃ tm' h' v0 ms', o = ⟨.normal, ⟨tm', 60, ms'⟩, h', v0⟩ ∧ (∀ t ∈ [3, 4, 24, 25, 26], Fr.ev ⟨tm', 60, ms'⟩ (.tmp t) = Fr.ev ⟨tm, 60, ms⟩ (.tmp t)) ∧ (∃ Q', At h' A4 (.cells [.map Q'] 49) ∧ At h' Q' (.map (ent (minR q r) 0) (minR q r).length) ∧ h.next ≤ Q') ∧ SeenAt h' Sb Sm [] ∧ Marks ms' lo h' ∧ (∀ c, c < h.next → c ≠ A4 → h'.objs.get c = h.objs.get c) ∧ h.next ≤ h'.next := by
  obtain ⟨pp, v, hidx, hvl⟩ := hV.2 k r hk
  obtain ⟨hv, fs, hld⟩ := hvl h (Kept.refl _ _)
  have hSm : Sm ≠ A4 := hS.mp.elim fun _ hl => fun e => (i1.ne hl.1) e.symm
  refine runs_seq ?_
  refine runs_region ?_
  refine ops_q (v := pp) (fs := []) rfl (by simp only [quiet, e24, e26]; exact congrArg one hidx) rfl rfl ?_
  refine ops_q (v := v) (fs := fs) rfl (by simp only [quiet, ev_set]; exact hld) rfl rfl ?_
  refine ops_q (v := v) (fs := []) rfl rfl rfl rfl ?_
  refine ops_nil ?_
  refine runs_seq ?_
  refine runs_region ?_
  refine ops_mkmap rfl rfl rfl rfl rfl (fun H1 g1 k1 n1 => ?_)
  have i1_1 := i1.kept k1
  have i2_1 := i2.kept k1
  have hv_1 := hv.kept k1
  have hS_1 := hS.kept k1
  have hms_1 := hms.kept k1
  refine ops_newA (cs := [.map h.next]) rfl rfl rfl rfl rfl rfl rfl rfl (by simp only [ev_set] <;> rfl) rfl rfl rfl rfl (fun H2 g2 k2 n2 => ?_)
  have i1_2 := i1_1.kept k2
  have i2_2 := i2_1.kept k2
  have hv_2 := hv_1.kept k2
  have hS_2 := hS_1.kept k2
  have hms_2 := hms_1.kept k2
  have g1_2 := g1.kept k2
  refine ops_nil ?_
  refine runs_seq (runs_seq ?_)
  refine runs_region ?_
  refine ops_q (v := v) (fs := []) rfl rfl rfl rfl ?_
  refine ops_c (f := 19) (args := [v]) rfl rfl rfl (clone_body Tryz.func19 rfl) rfl rfl ?_
  refine (all_runs Γ v hv_2.cell H2).mono ?_
  rintro ⟨ex3, fr3, H3, v3⟩ ⟨hv3, k3, g3⟩
  have hv3 : v3 = .func (.func 30) [] [.ptr H2.next 0] := hv3
  subst hv3
  have k3 : Kept H2.next H2 H3 := k3
  have g3 : At H3 H2.next (.cells [v] 26) := g3
  have i1_3 := i1_2.kept k3
  have i2_3 := i2_2.kept k3
  have hv_3 := hv_2.kept k3
  have hS_3 := hS_2.kept k3
  have hms_3 := hms_2.kept k3
  have g1_3 := g1_2.kept k3
  have g2_3 := g2.kept k3
  refine ops_nil ?_
  generalize hT : (((((((tm.set 28 (pp)).set 29 (v)).set 6 (v)).set 30 (.map h.next)).set 7 (.ptr H1.next 0)).set 31 (v)).set 32 (.func (.func 30) [] [.ptr H2.next 0])) = tm1
  have f3 : ∀ ms', Fr.ev ⟨tm1, 60, ms'⟩ (.tmp 3) = Fr.ev ⟨tm, 60, ms⟩ (.tmp 3) := fun ms' => by rw [← hT]; simp only [ev_set] <;> rfl
  have f4 : ∀ ms', Fr.ev ⟨tm1, 60, ms'⟩ (.tmp 4) = Fr.ev ⟨tm, 60, ms⟩ (.tmp 4) := fun ms' => by rw [← hT]; simp only [ev_set] <;> rfl
  have f24 : ∀ ms', Fr.ev ⟨tm1, 60, ms'⟩ (.tmp 24) = Fr.ev ⟨tm, 60, ms⟩ (.tmp 24) := fun ms' => by rw [← hT]; simp only [ev_set] <;> rfl
  have f25 : ∀ ms', Fr.ev ⟨tm1, 60, ms'⟩ (.tmp 25) = Fr.ev ⟨tm, 60, ms⟩ (.tmp 25) := fun ms' => by rw [← hT]; simp only [ev_set] <;> rfl
  have f26 : ∀ ms', Fr.ev ⟨tm1, 60, ms'⟩ (.tmp 26) = Fr.ev ⟨tm, 60, ms⟩ (.tmp 26) := fun ms' => by rw [← hT]; simp only [ev_set] <;> rfl
  have e7 : ∀ ms', Fr.ev ⟨tm1, 60, ms'⟩ (.tmp 7) = .ptr H1.next 0 := fun ms' => by rw [← hT]; simp only [ev_set] <;> rfl
  have e32 : Fr.ev ⟨tm1, 60, ms⟩ (.tmp 32) = .func (.func 30) [] [.ptr H2.next 0] := by rw [← hT]; simp only [ev_set] <;> rfl
  have a1 := i1_3.lt
  have a2 := i2_3.lt
  have a3 := g1_3.lt
  have a4 := g2_3.lt
  have b1 := i1.lt
  have b2 := i2.lt
  have nn : h.next ≤ H3.next := Nat.le_trans k1.next (Nat.le_trans k2.next k3.next)
  have n12 := k1.next
  refine runs_block (range_all (C := H2.next) (v := v) (r := r) (StI A4 Q H1.next h.next q r h) (fun _ => False) (fun p => (((tm1.set 33 (.lit (.int .i64 p.1))).set 34 (.lit (.int .i64 p.2))).set 8 (.lit (.int .i64 p.1))).set 9 (.lit (.int .i64 p.2))) hr rfl rfl e32 g3 hv_3 ?_ ?_ ?_ ?_ ?_ ?_ ?_)
  · exact fun k h1 h2 ⟨j1, j2, j3, j4, j5, j6⟩ hk => ⟨j1.keptLo hk a1, j2.keptLo hk a2, j3.keptLo hk a4, j4.keptLo hk a3, fun c hc hcn => (hk.old c (by first | omega | (dsimp only; omega))).trans (j5 c hc hcn), Nat.le_trans j6 hk.next⟩
  · exact fun h1 h2 hf _ => hf
  · exact ⟨i1_3, i2_3, g2_3, g1_3, fun c hc _ => (k1.then (k2.then k3)).old c hc, nn⟩
  · intro p h'
    refine runs_seq ?_
    refine runs_region ?_
    refine ops_q (v := .lit (.int .i64 p.1)) (fs := []) rfl rfl rfl rfl ?_
    refine ops_nil ?_
    refine runs_region ?_
    refine ops_q (v := .lit (.int .i64 p.2)) (fs := []) rfl rfl rfl rfl ?_
    refine ops_nil ?_
    exact ⟨_, rfl⟩
  · exact fun k p h' hp hlo hi => st_body Γ A4 Q H1.next h.next H3.next q r hv.asc h (Nat.ne_of_lt b1) (Nat.ne_of_lt b2) (Nat.ne_of_gt g1.lt) a3 tm1 ((f4 []).trans e4) (e7 []) _ k p h' hp hi
  · intro h' v0 ⟨j1, j2, j3, j4, j5, j6⟩ hD
    rw [List.take_length] at j4
    have e4D : Fr.ev ⟨tm1, 60, H3.next :: ms⟩ (.tmp 4) = .ptr A4 0 := (f4 _).trans e4
    have e7D : Fr.ev ⟨tm1, 60, H3.next :: ms⟩ (.tmp 7) = .ptr H1.next 0 := e7 _
    rw [show ∀ fr hp v, atEnd 2 ⟨.normal, fr, hp, v⟩ = ⟨.normal, fr, hp, v⟩ from fun _ _ _ => rfl]
    refine runs_region ?_
    refine ops_q (v := .map h.next) (fs := [.cells H1.next 0 [.map h.next]]) rfl (by simp only [quiet, e7D]; exact load_cell rfl j3.get rfl) rfl rfl ?_
    refine ops_e0 (v := .lit undef) (hp' := ⟨h'.objs.set A4 (.cells [.map h.next] 49), h'.next⟩) rfl rfl rfl (store_one (v := .map h.next) (w := .map Q) rfl (by simp only [ev_set]; exact e4D) (by simp only [ev_set] <;> rfl) rfl j1.get) (Nat.le_refl _) rfl ?_
    refine ops_nil ?_
    have hD : At h' H3.next (.deferred true) := hD
    have hm3 : ∀ D ∈ ms, D < h.next := fun D hD => (hms.2 D hD).2.lt
    have hmA : ∀ D ∈ ms, D ≠ A4 := fun D hD e => by
      have h1 := (hms.2 D hD).2.get
      rw [e, i1.get] at h1
      cases h1
    refine ⟨_, _, _, H3.next :: ms, rfl, fun t ht => ?_, ⟨h.next, ⟨j1.lt, get_same⟩, ⟨j4.lt, (get_ne (Nat.ne_of_gt b1)).trans j4.get⟩, Nat.le_refl _⟩, ?_, ?_, fun c hc hcn => (get_ne hcn).trans (j5 c hc (Nat.ne_of_lt hc)), j6⟩
    · simp only [List.mem_cons, List.not_mem_nil, or_false] at ht
      rcases ht with rfl | rfl | rfl | rfl | rfl
      · exact (by simp only [ev_set] <;> rfl : Fr.ev ⟨_, 60, H3.next :: ms⟩ (.tmp 3) = Fr.ev ⟨tm1, 60, H3.next :: ms⟩ (.tmp 3)).trans (f3 _)
      · exact (by simp only [ev_set] <;> rfl : Fr.ev ⟨_, 60, H3.next :: ms⟩ (.tmp 4) = Fr.ev ⟨tm1, 60, H3.next :: ms⟩ (.tmp 4)).trans (f4 _)
      · exact (by simp only [ev_set] <;> rfl : Fr.ev ⟨_, 60, H3.next :: ms⟩ (.tmp 24) = Fr.ev ⟨tm1, 60, H3.next :: ms⟩ (.tmp 24)).trans (f24 _)
      · exact (by simp only [ev_set] <;> rfl : Fr.ev ⟨_, 60, H3.next :: ms⟩ (.tmp 25) = Fr.ev ⟨tm1, 60, H3.next :: ms⟩ (.tmp 25)).trans (f25 _)
      · exact (by simp only [ev_set] <;> rfl : Fr.ev ⟨_, 60, H3.next :: ms⟩ (.tmp 26) = Fr.ev ⟨tm1, 60, H3.next :: ms⟩ (.tmp 26)).trans (f26 _)
    · have s1 := hS.ob.lt
      have s2 := hS.ltM
      have hS' : SeenAt h' Sb Sm [] := hS.keptLo (lo := h.next) ⟨j6, fun c hc => j5 c hc (Nat.ne_of_lt hc)⟩ s1 s2
      exact hS'.setNe hSb hSm
    · have hms' : Marks ms lo h' := hms.kept ⟨j6, fun c hc => j5 c hc (Nat.ne_of_lt hc)⟩
      refine Marks.cons ⟨hms'.1, fun D hD2 => ⟨(hms'.2 D hD2).1, (hms'.2 D hD2).2.setNe (hmA D hD2)⟩⟩ (by omega) (hD.setNe (by omega)) fun E hE => ?_
      have := hm3 E hE
      omega
  · exact fun h' v0 hf _ => hf.elim

set_option maxHeartbeats 8000000 in
set_option maxRecDepth 20000 in
theorem st_loop (Γ : Glob) (Sb Sm A4 lo : Nat) (rs : List (List (Int × Int))) (L' : SV) (hrs : ∀ r ∈ rs, r.length ≤ 1000000) (hlo : lo ≤ A4) (hSb : Sb ≠ A4) (hn : rs.length ≤ 1000000) : ∀ (rem k : Nat), k + rem = rs.length → ∀ (tm : T SV) (h : Hp) (ms : List Nat) (q : List (Int × Int)) (Q : Nat),
    Fr.ev ⟨tm, 60, ms⟩ (.tmp 3) = .ptr Sb 0 → Fr.ev ⟨tm, 60, ms⟩ (.tmp 4) = .ptr A4 0 → Fr.ev ⟨tm, 60, ms⟩ (.tmp 24) = L' → Fr.ev ⟨tm, 60, ms⟩ (.tmp 25) = .lit (.int .i64 (Int.ofNat rs.length)) → Fr.ev ⟨tm, 60, ms⟩ (.tmp 26) = .lit (.int .i64 (Int.ofNat k)) → Vb Γ lo h L' rs → At h A4 (.cells [.map Q] 49) → At h Q (.map (ent q 0) q.length) → SeenAt h Sb Sm [] → Marks ms lo h → Sm < Q →
    Runs Tryz.prog Γ (.code stLoop none ⟨tm, 60, ms⟩ h) fun o => ∃ tm' h' v0 ms', o = ⟨.exit 0, ⟨tm', 60, ms'⟩, h', v0⟩ ∧ Fr.ev ⟨tm', 60, ms'⟩ (.tmp 3) = .ptr Sb 0 ∧ Fr.ev ⟨tm', 60, ms'⟩ (.tmp 4) = .ptr A4 0 ∧ (∃ Q', At h' A4 (.cells [.map Q'] 49) ∧ At h' Q' (.map (ent ((rs.drop k).foldl minR q) 0) ((rs.drop k).foldl minR q).length) ∧ Sm < Q') ∧ SeenAt h' Sb Sm [] ∧ Marks ms' lo h' ∧ (∀ c, c < lo → h'.objs.get c = h.objs.get c) ∧ h.next ≤ h'.next := by
  intro rem
  induction rem with
  | zero =>
    intro k hk tm h ms q Q e3 e4 e24 e25 e26 hV i1 i2 hS hms hQ
    obtain rfl : k = rs.length := by omega
    rw [List.drop_length, List.foldl_nil]
    refine runs_loop ?_
    refine runs_seq (runs_region ?_)
    refine ops_q (v := .lit (.bool false)) (fs := []) rfl (by simp only [quiet, e25, e26]; exact congrArg one (lssF (Int.lt_irrefl _))) rfl rfl ?_
    refine ops_nil ?_
    refine runs_seq (runs_cond false rfl (runs_exit ?_))
    refine ⟨_, _, _, _, rfl, ?_, ?_, ⟨Q, i1, i2, hQ⟩, hS, hms, fun _ _ => rfl, Nat.le_refl _⟩
    · simp only [ev_set]; exact e3
    · simp only [ev_set]; exact e4
  | succ rem ih =>
    intro k hk tm h ms q Q e3 e4 e24 e25 e26 hV i1 i2 hS hms hQ
    have hkl : k < rs.length := by omega
    have hd : rs[k]? = some rs[k] := List.getElem?_eq_getElem hkl
    have hdr : rs.drop k = rs[k] :: rs.drop (k + 1) := List.drop_eq_getElem_cons hkl
    have hlen := hrs rs[k] (List.getElem_mem hkl)
    rw [hdr, List.foldl_cons]
    generalize rs[k] = r at hd hlen
    have hS2 := hS.ltM
    have b1 := i1.lt
    refine runs_loop ?_
    refine runs_seq (runs_region ?_)
    refine ops_q (v := .lit (.bool true)) (fs := []) rfl (by simp only [quiet, e25, e26]; exact congrArg one (lssT (Int.ofNat_lt.2 hkl))) rfl rfl ?_
    refine ops_nil ?_
    refine runs_seq (runs_cond true rfl (runs_skip ?_))
    refine runs_seq (runs_block ((st_round Γ Sb Sm A4 Q k lo q r rs L' hd hlen ms _ h (by simp only [ev_set]; exact e3) (by simp only [ev_set]; exact e4) (by simp only [ev_set]; exact e24) (by simp only [ev_set]; exact e26) hV i1 i2 hS hms hlo hSb).mono ?_))
    rintro o ⟨tm', h', v0, ms', rfl, hs, ⟨Q', p1, p2, p3⟩, p4, p5, p6, p7⟩
    rw [show ∀ fr hp v, atEnd 1 ⟨.normal, fr, hp, v⟩ = ⟨.normal, fr, hp, v⟩ from fun _ _ _ => rfl]
    have s3 := hs 3 (by decide)
    have s4 := hs 4 (by decide)
    have s24 := hs 24 (by decide)
    have s25 := hs 25 (by decide)
    have s26 := hs 26 (by decide)
    simp only [ev_set] at s3 s4 s24 s25 s26
    have s3 : Fr.ev ⟨tm', 60, ms'⟩ (.tmp 3) = .ptr Sb 0 := s3.trans e3
    have s4 : Fr.ev ⟨tm', 60, ms'⟩ (.tmp 4) = .ptr A4 0 := s4.trans e4
    have s24 : Fr.ev ⟨tm', 60, ms'⟩ (.tmp 24) = L' := s24.trans e24
    have s25 : Fr.ev ⟨tm', 60, ms'⟩ (.tmp 25) = .lit (.int .i64 (Int.ofNat rs.length)) := s25.trans e25
    have s26 : Fr.ev ⟨tm', 60, ms'⟩ (.tmp 26) = .lit (.int .i64 (Int.ofNat k)) := s26.trans e26
    refine runs_region ?_
    refine ops_q (v := .lit (.int .i64 (Int.ofNat (k + 1)))) (fs := []) rfl (by simp only [quiet, s26]; exact congrArg one (addQ (c := Int.ofNat (k + 1)) rfl (by simp only [Int.ofNat_eq_natCast]; omega) (by simp only [Int.ofNat_eq_natCast]; omega))) rfl rfl ?_
    refine ops_q (v := .lit (.int .i64 (Int.ofNat (k + 1)))) (fs := []) rfl rfl rfl rfl ?_
    refine ops_nil ?_
    refine (ih (k + 1) (by omega) _ h' ms' (minR q r) Q' ?_ ?_ ?_ ?_ ?_ (hV.kept ⟨p7, fun c hc => p6 c (by omega) (by omega)⟩) p1 p2 p4 p5 (by omega)).mono ?_
    · simp only [ev_set]; exact s3
    · simp only [ev_set]; exact s4
    · simp only [ev_set]; exact s24
    · simp only [ev_set]; exact s25
    · simp only [ev_set]; rfl
    · rintro o ⟨tm2, h2, v2, ms2, rfl, q1, q2, q3, q4, q5, q6, q7⟩
      exact ⟨tm2, h2, v2, ms2, rfl, q1, q2, q3, q4, q5, fun c hc => (q6 c hc).trans (p6 c (by omega) (by omega)), Nat.le_trans p7 q7⟩

end Go.Proofs.YtjilmneaeocimaaGreatDoor.snap
