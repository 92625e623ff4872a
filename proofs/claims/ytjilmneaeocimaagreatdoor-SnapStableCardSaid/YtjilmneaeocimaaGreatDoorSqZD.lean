/-
  THE LAW SnapStable: its first loop; by the author's gen_snap.py, in the calculus of runs. | THE LAW SnapStable: its first loop, whole; rows of what was seen as lists that can be read; the second loop; by the author of this claim, in the calculus of runs.
-/
import Derived.Test.YtjilmneaeocimaaGreatDoorSqZB
import Derived.Test.YtjilmneaeocimaaGreatDoorSpGY
namespace Go.Proofs.YtjilmneaeocimaaGreatDoor.snap
open Go Go.Proofs.YtjilmneaeocimaaGreatDoor.Ev

noncomputable def lsLoop : Code := (inBlk (seqR (seqL (seqR (seqR (seqR (seqR (seqR (bodyOf Tryz.f3)))))))))
noncomputable def lsB : Code := (inBlk (seqL (seqR (seqR (inLoop lsLoop)))))
noncomputable def lcLoop : Code := (inBlk (seqR (seqL (seqR (seqR (seqR (seqR (seqR (seqR (seqR (seqR (bodyOf Tryz.f3))))))))))))
noncomputable def lcB : Code := (inBlk (seqL (seqR (seqR (inLoop lcLoop)))))
/-- All but rows of one type are as they were. -/
structure Fe (e : TypeId) (h h' : Hp) : Prop where
  next : h.next ≤ h'.next
  old : ∀ b, b < h.next → (∀ l k cv z, h.objs.get b ≠ some (.row l e k cv z)) → h'.objs.get b = h.objs.get b
theorem At.fe {e : TypeId} {h h' : Hp} {b : Nat} {o : AObj} (a : At h b o) (k : Fe e h h') (hne : ∀ l k cv z, o ≠ .row l e k cv z) : At h' b o := ⟨Nat.lt_of_lt_of_le a.lt k.next, (k.old b a.lt fun l k cv z hh => by rw [a.get] at hh; exact hne l k cv z (Option.some.inj hh)).trans a.get⟩
theorem SeenAt.fe {e : TypeId} {h h' : Hp} {b M : Nat} {r : List (Int × Int)} (s : SeenAt h b M r) (k : Fe e h h') : SeenAt h' b M r := ⟨s.ob.fe k (fun _ _ _ _ hh => by cases hh), s.mp.elim fun l hl => ⟨l, hl.1.fe k (fun _ _ _ _ hh => by cases hh), hl.2⟩, s.asc, s.good⟩
theorem row_ty {l l' : List SV} {e e' : TypeId} {k k' cv cv' z z' : Nat} (hne : e ≠ e') : AObj.row l e k cv z ≠ .row l' e' k' cv' z' := fun hh => by
  cases hh
  exact hne rfl
theorem IdR.fe {e : TypeId} {h h' : Hp} {lo : Nat} {v : SV} {r : List (Int × Int)} (s : IdR h lo v r) (k : Fe e h h') (hne : 44 ≠ e) : IdR h' lo v r := by
  rcases s with ⟨e, s | ⟨b, s1, s2⟩⟩ | ⟨bl, s1, s2, s3⟩
  · exact .inl ⟨e, .inl s⟩
  · exact .inl ⟨e, .inr ⟨b, s1, s2.fe k fun _ _ _ _ hh => by cases hh⟩⟩
  · exact .inr ⟨bl, s1, s2, s3.fe k fun _ _ _ _ => row_ty hne⟩
theorem CR.fe {e e' : TypeId} {h h' : Hp} {lo : Nat} {v : SV} {vs : List SV} (s : CR e' h lo v vs) (k : Fe e h h') (hne : e' ≠ e) : CR e' h' lo v vs := by
  rcases s with s | ⟨bl, s1, s2, s3⟩
  · exact .inl s
  · exact .inr ⟨bl, s1, s2, s3.fe k fun _ _ _ _ => row_ty hne⟩
/-- Pointers, one behind the other. -/
def Ps (h : Hp) (lo : Nat) (v : SV) (ps : List SV) (rs : List (List (Int × Int))) : Prop := CR 26 h lo v ps ∧ ps.length = rs.length ∧ ∀ (k : Nat) r, rs[k]? = some r → ∃ b M, ps[k]? = some (.ptr b 0) ∧ SeenAt h b M r
theorem Ps.kept {h H : Hp} {lo : Nat} {v : SV} {ps : List SV} {rs : List (List (Int × Int))} (s : Ps h lo v ps rs) (k : Kept h.next h H) : Ps H lo v ps rs := ⟨s.1.kept k, s.2.1, fun j r hr => by
  obtain ⟨b, M, h1, h2⟩ := s.2.2 j r hr
  exact ⟨b, M, h1, h2.kept k⟩⟩
theorem get_snoc {α : Type} {l : List α} {x : α} {k : Nat} {y : α} (h : (l ++ [x])[k]? = some y) : (k < l.length ∧ l[k]? = some y) ∨ (k = l.length ∧ y = x) := by
  by_cases hk : k < l.length
  · rw [List.getElem?_append_left hk] at h
    exact .inl ⟨hk, h⟩
  · rw [List.getElem?_append_right (by omega)] at h
    have hk0 : k - l.length = 0 := by
      have := (List.getElem?_eq_some_iff.1 h).1
      simp at this
      omega
    rw [hk0] at h
    exact .inr ⟨by omega, by simpa using h.symm⟩
theorem snoc_len {α β : Type} {l : List α} {m : List β} (x : α) (h : l.length = m.length) : (l ++ [x])[m.length]? = some x := by
  rw [← h, List.getElem?_append_right (Nat.le_refl _), Nat.sub_self]
  rfl
theorem append_cell {Γ : Glob} {t e : TypeId} {h : Hp} {lo nb : Nat} {v u : SV} {vs : List SV} (ht : tyU Tryz.prog t = some (.slice e)) (hinfo : ∃ i z, Tryz.prog.info? e = some i ∧ i.zero = some z ∧ i.size = 1 ∧ i.bytes ≤ 1000 ∧ (SV.cells (.lit z)).length = 1) (hr : CR e h lo v vs) (hn : vs.length ≤ 1000000) (hlo : lo ≤ h.next) (h1 : SV.one u = true) (hnb : h.objs.get nb = some (.cells [u] e)) :
    ∃ v' h', appendE Tryz.prog Γ h [t, t] v (.slice nb 0 1 1) = some (v', h') ∧ CR e h' lo v' (vs ++ [u]) ∧ h'.next = h.next + 1 ∧ Fe e h h' := by
  obtain ⟨i, z, hi, hz, hsz, hby, hzs⟩ := hinfo
  have hfl : ∀ vs : List SV, (vs.map fun x => [x]).flatten = vs := fun vs => by
    induction vs with
    | nil => rfl
    | cons x vs ih => rw [List.map_cons, List.flatten_cons, ih]; rfl
  have hml : ∀ vs : List SV, (vs.map fun x => [x]).length = vs.length := fun vs => List.length_map _
  have hsn : (vs.map fun x => [x]) ++ [[u]] = (vs ++ [u]).map fun x => [x] := by rw [List.map_append]; rfl
  rcases hr with ⟨rfl, rfl⟩ | ⟨bl, rfl, s2, s3⟩
  · obtain ⟨v', h', e1, e2, e3, e4⟩ := append_one (Γ := Γ) (bl := 0) (lo := lo) ht hi hz hby (by omega) (by rw [hsz]; exact hzs) (v := .lit (.slice none 0 0)) (l := []) (.inl ⟨rfl, rfl⟩) (fun x hx => by cases hx) (c := [u]) (nb := nb) (by rw [hsz]; rfl) (by simp [h1]) (Nat.zero_le _) hlo hnb
    refine ⟨v', h', e1, ?_, e3, ⟨by omega, fun b hb _ => e4 b hb (.inl rfl)⟩⟩
    rcases e2 with ⟨_, e2⟩ | ⟨f1, f2, f3, f4⟩
    · cases e2
    · rw [hsz] at f4
      exact .inr ⟨h.next, f1, f2, f3, f4⟩
  · obtain ⟨v', h', e1, e2, e3, e4⟩ := append_one (Γ := Γ) (bl := bl) (lo := lo) ht hi hz hby (by omega) (by rw [hsz]; exact hzs) (v := .row bl 0 vs.length vs.length bl) (l := vs.map fun x => [x]) (.inr ⟨by rw [hml], s2, s3.lt, by rw [hml, hfl, hsz]; exact s3.get⟩) (fun x hx => by obtain ⟨y, _, rfl⟩ := List.mem_map.1 hx; rw [hsz]; rfl) (c := [u]) (nb := nb) (by rw [hsz]; rfl) (by simp [h1]) (by rw [hml]; omega) hlo hnb
    refine ⟨v', h', e1, ?_, e3, ⟨by omega, fun b hb hne => e4 b hb (.inr ?_)⟩⟩
    · rw [hsn] at e2
      rcases e2 with ⟨_, e2⟩ | ⟨f1, f2, f3, f4⟩
      · have := congrArg List.length e2
        simp at this
      · rw [hsz, hml, hfl] at f4
        rw [hml] at f1
        exact .inr ⟨h.next, f1, f2, f3, f4⟩
    · rintro rfl
      exact hne _ _ _ _ s3.get
section
variable {Γ : Glob} {ops : Array Oper} {o1 o2 : Oper} {l : List Oper} {tm : T SV} {n t1 t2 : Nat} {ms : List Nat} {hp : Hp} {Φ : Out → Prop}
/-- One more. -/
theorem ops_app1 {t e : TypeId} {x s y : Operand} {v u : SV} {vs : List SV} {lo : Nat} (ht : tyU Tryz.prog t = some (.slice e)) (hinfo : ∃ i z, Tryz.prog.info? e = some i ∧ i.zero = some z ∧ i.size = 1 ∧ i.bytes ≤ 1000 ∧ (SV.cells (.lit z)).length = 1)
    (w1 : wantedQ ops ⟨tm, n, ms⟩ o1 = some true) (h1 : o1.op = .buildSlice t 1 #[(0, x)]) (hx : Fr.ev ⟨tm, n, ms⟩ x = u) (hu1 : SV.one u = true) (hbs : buildSliceE Tryz.prog hp t 1 [(0, u)] = some (.slice hp.next 0 1 1, ⟨hp.objs.set hp.next (.cells [u] e), hp.next + 1⟩)) (p1 : o1.dst = some t1) (q1 : Nat.blt t1 n = true)
    (w2 : wantedQ ops ⟨tm.set t1 (.slice hp.next 0 1 1), n, ms⟩ o2 = some true) (h2 : o2.op = .call ⟨.builtin .append, #[s, y], #[t, t]⟩) (hs : Fr.ev ⟨tm.set t1 (.slice hp.next 0 1 1), n, ms⟩ s = v) (hy : Fr.ev ⟨tm.set t1 (.slice hp.next 0 1 1), n, ms⟩ y = .slice hp.next 0 1 1) (p2 : o2.dst = some t2) (q2 : Nat.blt t2 n = true)
    (hrow : CR e hp lo v vs) (hn : vs.length ≤ 1000000) (hlo : lo ≤ hp.next)
    (k : ∀ v' H, CR e H lo v' (vs ++ [u]) → Fe e hp H → RunsOps Tryz.prog Γ ops l ⟨(tm.set t1 (.slice hp.next 0 1 1)).set t2 v', n, ms⟩ H Φ) : RunsOps Tryz.prog Γ ops (o1 :: o2 :: l) ⟨tm, n, ms⟩ hp Φ := by
  have hk : Kept hp.next hp ⟨hp.objs.set hp.next (.cells [u] e), hp.next + 1⟩ := ⟨Nat.le_succ _, fun b hb => get_ne (Nat.ne_of_lt hb)⟩
  obtain ⟨v', H, happ, hrow', hnx, hfe⟩ := append_cell (Γ := Γ) (nb := hp.next) ht hinfo (hrow.kept hk) hn (Nat.le_succ_of_le hlo) hu1 get_same
  refine ops_e (v := .slice hp.next 0 1 1) (hp' := ⟨hp.objs.set hp.next (.cells [u] e), hp.next + 1⟩) w1 (by rw [h1]; rfl) (by rw [h1]; rfl) (by
    rw [h1]
    simp only [effect, List.map_cons, List.map_nil, hx, hbs]
    rfl) (Nat.le_succ _) p1 q1 ?_
  refine ops_e (v := v') (hp' := H) w2 (by rw [h2]; rfl) (by rw [h2]; rfl) (by
    rw [h2]
    simp only [effect, hs, hy]
    exact congrArg Ev.val happ) (by have : H.next = hp.next + 1 + 1 := hnx; show hp.next + 1 ≤ H.next; omega) p2 q2 ?_
  refine k v' H hrow' ⟨by have : H.next = hp.next + 1 + 1 := hnx; omega, fun b hb hne => ?_⟩
  have hg : (⟨hp.objs.set hp.next (.cells [u] e), hp.next + 1⟩ : Hp).objs.get b = hp.objs.get b := get_ne (Nat.ne_of_lt hb)
  exact (hfe.old b (Nat.lt_succ_of_lt hb) fun l k cv z hh => hne l k cv z (hg.symm.trans hh)).trans hg
end
set_option maxRecDepth 10000 in
theorem infoPtr : ∃ i z, Tryz.prog.info? 26 = some i ∧ i.zero = some z ∧ i.size = 1 ∧ i.bytes ≤ 1000 ∧ (SV.cells (.lit z)).length = 1 := ⟨_, _, rfl, rfl, rfl, by decide, rfl⟩
set_option maxRecDepth 10000 in
theorem infoList : ∃ i z, Tryz.prog.info? 25 = some i ∧ i.zero = some z ∧ i.size = 1 ∧ i.bytes ≤ 1000 ∧ (SV.cells (.lit z)).length = 1 := ⟨_, _, rfl, rfl, rfl, by decide, rfl⟩
theorem build_cell {h : Hp} {t e : TypeId} {z : Value} {u : SV} (ht : tyU Tryz.prog t = some (.slice e)) (hs : tySize Tryz.prog e = some 1) (hz : tyZero Tryz.prog e = some z) (hzs : (SV.cells (.lit z)).length = 1) (hc : u.cells = [u]) (h1 : SV.one u = true) : buildSliceE Tryz.prog h t 1 [(0, u)] = some (.slice h.next 0 1 1, ⟨h.objs.set h.next (.cells [u] e), h.next + 1⟩) :=
  build_one (c := [u]) ht hs hz hzs (by decide) (by decide) hc rfl (by simp [h1])
/-- Lists of ids that came in. -/
def OL (Γ : Glob) (L : SV) (idss : List (List (Int × Int))) : Prop := (∀ h', lenQ Tryz.prog h' 22 L = some (.lit (.int .i64 (Int.ofNat idss.length)), [])) ∧ ∀ k x, idss[k]? = some x → ∃ p Li, indexAddrQ Tryz.prog 22 L (.lit (.int .i64 (Int.ofNat k))) = some p ∧ (∀ h', ∃ fs, loadQ Tryz.prog Γ h' 25 p = some (Li, fs)) ∧ ∀ lo h, Ids Γ lo h Li x
set_option maxHeartbeats 8000000 in
set_option maxRecDepth 20000 in
theorem ls_body (Γ : Glob) (lo k : Nat) (L pv lv : SV) (ps ls : List SV) (idss : List (List (Int × Int))) (x : List (Int × Int)) (rs : List (List (Int × Int))) (hL : OL Γ L idss) (hk : idss[k]? = some x) (tm : T SV) (h : Hp) (e3 : Fr.ev ⟨tm, 74, []⟩ (.tmp 3) = pv) (e4 : Fr.ev ⟨tm, 74, []⟩ (.tmp 4) = lv) (e18 : Fr.ev ⟨tm, 74, []⟩ (.tmp 18) = L) (e20 : Fr.ev ⟨tm, 74, []⟩ (.tmp 20) = .lit (.int .i64 (Int.ofNat k))) (hP : Ps h lo pv ps rs) (hQ : Ls h lo lv ls rs) (hpn : ps.length ≤ 1000000) (hln : ls.length ≤ 1000000) (hlo : lo ≤ h.next) :
    Runs Tryz.prog Γ (.code lsB none ⟨tm, 74, []⟩ h) fun o => (50 < x.length ∧ ∃ tm' h' v0, o = ⟨.ret, ⟨tm', 74, []⟩, h', v0⟩ ∧ Fr.ev ⟨tm', 74, []⟩ (.tmp 2) = .lit (.bool true)) ∨ (x.length ≤ 50 ∧ ∃ tm' h' v0 pv' lv' ps' ls', o = ⟨.normal, ⟨tm', 74, []⟩, h', v0⟩ ∧ (∀ t ∈ [18, 19, 20], Fr.ev ⟨tm', 74, []⟩ (.tmp t) = Fr.ev ⟨tm, 74, []⟩ (.tmp t)) ∧ Fr.ev ⟨tm', 74, []⟩ (.tmp 3) = pv' ∧ Fr.ev ⟨tm', 74, []⟩ (.tmp 4) = lv' ∧ Ps h' lo pv' ps' (rs ++ [allR x]) ∧ Ls h' lo lv' ls' (rs ++ [allR x]) ∧ h.next ≤ h'.next) := by
  obtain ⟨pp, Li, hidx, hldA, hLi⟩ := hL.2 k x hk
  obtain ⟨fs, hld⟩ := hldA h
  by_cases hlong : 50 < x.length
  · skip
    refine runs_seq ?_
    refine runs_region ?_
    refine ops_q (v := pp) (fs := []) rfl (by simp only [quiet, e18, e20]; exact congrArg one hidx) rfl rfl ?_
    refine ops_q (v := Li) (fs := fs) rfl (by simp only [quiet, ev_set]; exact hld) rfl rfl ?_
    refine ops_q (v := Li) (fs := []) rfl rfl rfl rfl ?_
    refine ops_nil ?_
    refine runs_seq ?_
    refine runs_seq ?_
    refine runs_region ?_
    refine ops_q (v := Li) (fs := []) rfl rfl rfl rfl ?_
    refine ops_q (v := .lit (.int .i64 (Int.ofNat x.length))) (fs := []) rfl (by simp only [quiet]; exact (hLi 0 h).1 _) rfl rfl ?_
    refine ops_q (v := .lit (.bool true)) (fs := []) rfl (by simp only [quiet, ev_set]; exact congrArg one (gtrT (a := Int.ofNat x.length) (b := 50) (by simp only [Int.ofNat_eq_natCast]; omega))) rfl rfl ?_
    refine ops_nil ?_
    refine runs_cond true rfl ?_
    refine runs_seq ?_
    refine runs_region ?_
    refine ops_q (v := .lit (.bool true)) (fs := []) rfl rfl rfl rfl ?_
    refine ops_nil ?_
    refine runs_ret ?_
    exact .inl ⟨hlong, _, _, _, rfl, by simp only [ev_set] <;> rfl⟩
  refine runs_seq ?_
  refine runs_region ?_
  refine ops_q (v := pp) (fs := []) rfl (by simp only [quiet, e18, e20]; exact congrArg one hidx) rfl rfl ?_
  refine ops_q (v := Li) (fs := fs) rfl (by simp only [quiet, ev_set]; exact hld) rfl rfl ?_
  refine ops_q (v := Li) (fs := []) rfl rfl rfl rfl ?_
  refine ops_nil ?_
  refine runs_seq ?_
  refine runs_seq ?_
  refine runs_region ?_
  refine ops_q (v := Li) (fs := []) rfl rfl rfl rfl ?_
  refine ops_q (v := .lit (.int .i64 (Int.ofNat x.length))) (fs := []) rfl (by simp only [quiet]; exact (hLi 0 h).1 _) rfl rfl ?_
  refine ops_q (v := .lit (.bool false)) (fs := []) rfl (by simp only [quiet, ev_set]; exact congrArg one (gtrF (a := Int.ofNat x.length) (b := 50) (by simp only [Int.ofNat_eq_natCast]; omega))) rfl rfl ?_
  refine ops_nil ?_
  refine runs_cond false rfl ?_
  refine runs_skip ?_
  refine runs_seq ?_
  refine runs_region ?_
  refine ops_q (v := Li) (fs := []) rfl rfl rfl rfl ?_
  refine ops_c (f := 6) (args := [Li]) rfl rfl (by simp only [calleeOf, List.map_cons, List.map_nil, ev_set] <;> rfl) (clone_body Tryz.func6 rfl) rfl rfl ?_
  refine (of_runs Γ h Li x (by omega) (hLi _ _)).mono ?_
  rintro ⟨ex1, fr1, H1, v1⟩ ⟨b, M, u, hv1, hS, hI, k1⟩
  have hv1 : v1 = .tuple [.ptr b 0, u] := hv1
  subst hv1
  have k1 : Kept h.next h H1 := k1
  have hS : SeenAt H1 b M (allR x) := hS
  have hI : IdR H1 h.next u (allR x) := hI
  have hP_1 := hP.kept k1
  have hQ_1 := hQ.kept k1
  refine ops_q (v := .tuple [.ptr b 0, u]) (fs := []) rfl rfl rfl rfl ?_
  refine ops_q (v := .ptr b 0) (fs := []) rfl rfl rfl rfl ?_
  refine ops_q (v := u) (fs := []) rfl rfl rfl rfl ?_
  refine ops_q (v := .ptr b 0) (fs := []) rfl rfl rfl rfl ?_
  refine ops_q (v := u) (fs := []) rfl rfl rfl rfl ?_
  refine ops_nil ?_
  refine runs_region ?_
  refine ops_q (v := pv) (fs := []) rfl (by simp only [quiet, ev_set, e3] <;> rfl) rfl rfl ?_
  refine ops_q (v := .ptr b 0) (fs := []) rfl rfl rfl rfl ?_
  refine ops_app1 (u := .ptr b 0) (v := pv) (vs := ps) (lo := lo) tySeens infoPtr rfl rfl (by simp only [ev_set] <;> rfl) rfl rfl rfl rfl rfl rfl (by simp only [ev_set] <;> rfl) (by simp only [ev_set] <;> rfl) rfl rfl hP_1.1 hpn (show lo ≤ H1.next from by have := k1.next; omega) (fun pv2 H5 cp f5 => ?_)
  have f5 : Fe 26 H1 H5 := f5
  refine ops_q (v := lv) (fs := []) rfl (by simp only [quiet, ev_set, e4] <;> rfl) rfl rfl ?_
  refine ops_q (v := u) (fs := []) rfl rfl rfl rfl ?_
  refine ops_app1 (u := u) (v := lv) (vs := ls) (lo := lo) tyLists infoList rfl rfl (by simp only [ev_set] <;> rfl) hI.one (build_cell tyLists szList rfl rfl hI.cell hI.one) rfl rfl rfl rfl (by simp only [ev_set] <;> rfl) (by simp only [ev_set] <;> rfl) rfl rfl (hQ_1.1.fe f5 (by decide)) hln (show lo ≤ H5.next from by have := k1.next; have := f5.next; omega) (fun lv2 H6 cl f6 => ?_)
  have f6 : Fe 25 H5 H6 := f6
  refine ops_q (v := pv2) (fs := []) rfl rfl rfl rfl ?_
  refine ops_q (v := lv2) (fs := []) rfl rfl rfl rfl ?_
  refine ops_nil ?_
  have hP1 := hP_1
  have hQ1 := hQ_1
  refine .inr ⟨by omega, _, _, _, pv2, lv2, _, _, rfl, slots3 (by simp only [ev_set] <;> rfl) (by simp only [ev_set] <;> rfl) (by simp only [ev_set] <;> rfl), by simp only [ev_set] <;> rfl, by simp only [ev_set] <;> rfl, ⟨cp.fe f6 (by decide), by rw [List.length_append, List.length_append, hP1.2.1]; rfl, fun j r hr => ?_⟩, ⟨cl, by rw [List.length_append, List.length_append, hQ1.2.1]; rfl, fun j r hr => ?_⟩, by have := k1.next; have := f5.next; have := f6.next; omega⟩
  · rcases get_snoc hr with ⟨hj, hr⟩ | ⟨rfl, rfl⟩
    · obtain ⟨b', M', g1, g2⟩ := hP1.2.2 j r hr
      exact ⟨b', M', by rw [List.getElem?_append_left (by rw [hP1.2.1]; exact hj)]; exact g1, (g2.fe f5).fe f6⟩
    · exact ⟨b, M, snoc_len _ hP1.2.1, (hS.fe f5).fe f6⟩
  · rcases get_snoc hr with ⟨hj, hr⟩ | ⟨rfl, rfl⟩
    · obtain ⟨u', lo', g1, g2⟩ := hQ1.2.2 j r hr
      exact ⟨u', lo', by rw [List.getElem?_append_left (by rw [hQ1.2.1]; exact hj)]; exact g1, (g2.fe f5 (by decide)).fe f6 (by decide)⟩
    · exact ⟨u, _, snoc_len _ hQ1.2.1, (hI.fe f5 (by decide)).fe f6 (by decide)⟩

end Go.Proofs.YtjilmneaeocimaaGreatDoor.snap
namespace Go.Proofs.YtjilmneaeocimaaGreatDoor.snap
open Go Go.Proofs.YtjilmneaeocimaaGreatDoor.Ev

theorem Ps.snocMap {rs : List (List (Int × Int))} {idss : List (List (Int × Int))} {k : Nat} {x : List (Int × Int)} (e : rs = (idss.take k).map allR) (hx : idss[k]? = some x) : rs ++ [allR x] = (idss.take (k + 1)).map allR := by
  have hk := (List.getElem?_eq_some_iff.1 hx)
  obtain ⟨hk, rfl⟩ := hk
  rw [e, (List.take_append_getElem hk).symm, List.map_append]
  rfl
set_option maxHeartbeats 8000000 in
set_option maxRecDepth 20000 in
/-- The first loop: each list comes to what was seen, in both ways; or one of them is too long. -/
theorem ls_loop (Γ : Glob) (lo : Nat) (L : SV) (idss : List (List (Int × Int))) (hids : idss.length ≤ 10) (hL : OL Γ L idss) : ∀ (rem k : Nat), k + rem = idss.length → ∀ (tm : T SV) (h : Hp) (pv lv : SV) (ps ls : List SV), Fr.ev ⟨tm, 74, []⟩ (.tmp 3) = pv → Fr.ev ⟨tm, 74, []⟩ (.tmp 4) = lv → Fr.ev ⟨tm, 74, []⟩ (.tmp 18) = L → Fr.ev ⟨tm, 74, []⟩ (.tmp 19) = .lit (.int .i64 (Int.ofNat idss.length)) → Fr.ev ⟨tm, 74, []⟩ (.tmp 20) = .lit (.int .i64 (Int.ofNat k)) → Ps h lo pv ps ((idss.take k).map allR) → Ls h lo lv ls ((idss.take k).map allR) → (∀ x ∈ idss.take k, x.length ≤ 50) → lo ≤ h.next →
    Runs Tryz.prog Γ (.code lsLoop none ⟨tm, 74, []⟩ h) fun o => (∃ tm' h' v0, o = ⟨.ret, ⟨tm', 74, []⟩, h', v0⟩ ∧ Fr.ev ⟨tm', 74, []⟩ (.tmp 2) = .lit (.bool true)) ∨ (∃ tm' h' v0 pv' lv' ps' ls', o = ⟨.exit 0, ⟨tm', 74, []⟩, h', v0⟩ ∧ Fr.ev ⟨tm', 74, []⟩ (.tmp 3) = pv' ∧ Fr.ev ⟨tm', 74, []⟩ (.tmp 4) = lv' ∧ Ps h' lo pv' ps' (idss.map allR) ∧ Ls h' lo lv' ls' (idss.map allR) ∧ (∀ x ∈ idss, x.length ≤ 50) ∧ h.next ≤ h'.next) := by
  intro rem
  induction rem with
  | zero =>
    intro k hk tm h pv lv ps ls e3 e4 e18 e19 e20 hP hQ hx hlo
    obtain rfl : k = idss.length := by omega
    rw [List.take_length] at hP hQ hx
    refine runs_loop ?_
    refine runs_seq (runs_region ?_)
    refine ops_q (v := .lit (.bool false)) (fs := []) rfl (by simp only [quiet, e19, e20]; exact congrArg one (lssF (Int.lt_irrefl _))) rfl rfl ?_
    refine ops_nil ?_
    refine runs_seq (runs_cond false rfl (runs_exit ?_))
    refine .inr ⟨_, _, _, pv, lv, ps, ls, rfl, ?_, ?_, hP, hQ, hx, Nat.le_refl _⟩
    · simp only [ev_set]; exact e3
    · simp only [ev_set]; exact e4
  | succ rem ih =>
    intro k hk tm h pv lv ps ls e3 e4 e18 e19 e20 hP hQ hx hlo
    have hkl : k < idss.length := by omega
    have hd : idss[k]? = some idss[k] := List.getElem?_eq_getElem hkl
    have hsn := Ps.snocMap (rs := (idss.take k).map allR) rfl hd
    have hts : idss.take (k + 1) = idss.take k ++ [idss[k]] := (List.take_append_getElem hkl).symm
    have hpl : ps.length ≤ 1000000 := by
      rw [hP.2.1, List.length_map, List.length_take]
      omega
    have hql : ls.length ≤ 1000000 := by
      rw [hQ.2.1, List.length_map, List.length_take]
      omega
    generalize idss[k] = p at hd hsn hts
    refine runs_loop ?_
    refine runs_seq (runs_region ?_)
    refine ops_q (v := .lit (.bool true)) (fs := []) rfl (by simp only [quiet, e19, e20]; exact congrArg one (lssT (Int.ofNat_lt.2 hkl))) rfl rfl ?_
    refine ops_nil ?_
    refine runs_seq (runs_cond true rfl (runs_skip ?_))
    refine runs_seq (runs_block ((ls_body Γ lo k L pv lv ps ls idss p _ hL hd _ h (by simp only [ev_set]; exact e3) (by simp only [ev_set]; exact e4) (by simp only [ev_set]; exact e18) (by simp only [ev_set]; exact e20) hP hQ hpl hql hlo).mono ?_))
    rintro o (⟨_, tm', h', v0, rfl, e2⟩ | ⟨h50, tm', h', v0, pv', lv', ps', ls', rfl, hs, p3, p4, hP', hQ', hn⟩)
    · rw [show ∀ fr hp v, atEnd 1 ⟨.ret, fr, hp, v⟩ = ⟨.ret, fr, hp, v⟩ from fun _ _ _ => rfl]
      exact .inl ⟨_, _, _, rfl, e2⟩
    · rw [show ∀ fr hp v, atEnd 1 ⟨.normal, fr, hp, v⟩ = ⟨.normal, fr, hp, v⟩ from fun _ _ _ => rfl]
      have s18 := hs 18 (by decide)
      have s19 := hs 19 (by decide)
      have s20 := hs 20 (by decide)
      simp only [ev_set] at s18 s19 s20
      have s18 : Fr.ev ⟨tm', 74, []⟩ (.tmp 18) = L := s18.trans e18
      have s19 : Fr.ev ⟨tm', 74, []⟩ (.tmp 19) = .lit (.int .i64 (Int.ofNat idss.length)) := s19.trans e19
      have s20 : Fr.ev ⟨tm', 74, []⟩ (.tmp 20) = .lit (.int .i64 (Int.ofNat k)) := s20.trans e20
      rw [hsn] at hP' hQ'
      refine runs_region ?_
      refine ops_q (v := .lit (.int .i64 (Int.ofNat (k + 1)))) (fs := []) rfl (by simp only [quiet, s20]; exact congrArg one (addQ (c := Int.ofNat (k + 1)) rfl (by simp only [Int.ofNat_eq_natCast]; omega) (by simp only [Int.ofNat_eq_natCast]; omega))) rfl rfl ?_
      refine ops_q (v := .lit (.int .i64 (Int.ofNat (k + 1)))) (fs := []) rfl rfl rfl rfl ?_
      refine ops_nil ?_
      refine (ih (k + 1) (by omega) _ h' pv' lv' ps' ls' ?_ ?_ ?_ ?_ ?_ hP' hQ' (fun y hy => ?_) (Nat.le_trans hlo hn)).mono ?_
      · simp only [ev_set]; exact p3
      · simp only [ev_set]; exact p4
      · simp only [ev_set]; exact s18
      · simp only [ev_set]; exact s19
      · simp only [ev_set]; rfl
      · rw [hts] at hy
        rcases List.mem_append.1 hy with hy | hy
        · exact hx y hy
        · rw [List.mem_singleton.1 hy]
          exact h50
      · rintro o (⟨tm2, h2, v2, rfl, q1⟩ | ⟨tm2, h2, v2, pv2, lv2, ps2, ls2, rfl, q1, q2, q3, q4, q5, q6⟩)
        · exact .inl ⟨_, _, _, rfl, q1⟩
        · exact .inr ⟨_, _, _, _, _, _, _, rfl, q1, q2, q3, q4, q5, Nat.le_trans hn q6⟩
theorem nilSeens (h : Hp) (p : Option Addr) (c : Nat) : lenQ Tryz.prog h 24 (.lit (.slice p 0 c)) = some (.lit (.int .i64 0), []) := by kernel_rfl
/-- Pointers that stand in a row, from the off-th on. -/
theorem vb_row {Γ : Glob} {h : Hp} {B off c : Nat} {ps : List SV} {rs : List (List (Int × Int))} {cv z k0 : Nat} (hB : At h B (.row ps 26 k0 cv z)) (hl : ∀ (k : Nat) r, rs[k]? = some r → ∃ v, ps[off + k]? = some v ∧ SeenV h v r) : Vb Γ h.next h (.row B off rs.length c B) rs := by
  refine ⟨fun h' => by simp only [lenQ, tySeens]; rfl, fun k r hr => ?_⟩
  obtain ⟨v, h1, h2⟩ := hl k r hr
  have hk : k < rs.length := (List.getElem?_eq_some_iff.1 hr).1
  refine ⟨.ptr B (off + k), v, ?_, fun h' kk => ⟨h2.kept kk, _, load_row1 aggPtr (hB.kept kk).get h1⟩⟩
  simp only [indexAddrQ, tySeens, szPtr, idxQ]
  rw [show Nat.blt k rs.length = true from Nat.ble_eq_true_of_le hk, cond_true]
  simp only [Nat.mul_one]
/-- A row of pointers as a list of what was seen. -/
theorem vs_row {Γ : Glob} {h : Hp} {lo : Nat} {v : SV} {ps : List SV} {rs : List (List (Int × Int))} (hr : CR 26 h lo v ps) (hn : ps.length = rs.length) (hl : ∀ (k : Nat) r, rs[k]? = some r → ∃ u, ps[k]? = some u ∧ SeenV h u r) : Vs Γ h.next h v rs := by
  rcases hr with ⟨rfl, rfl⟩ | ⟨bl, rfl, _, s3⟩
  · have h0 : rs = [] := List.eq_nil_of_length_eq_zero (by simpa using hn.symm)
    subst h0
    exact ⟨⟨fun h' => nilSeens h' none 0, fun k r hr => by simp at hr⟩, fun r rs' e => by cases e⟩
  · rw [hn]
    refine ⟨vb_row s3 fun k r hr => by rw [Nat.zero_add]; exact hl k r hr, fun r rs' e => ?_⟩
    subst e
    have h1 : boundQ none (r :: rs').length (r :: rs').length = some (r :: rs').length := rfl
    have h2 : boundQ (some (.lit (.int .i64 1))) 0 (r :: rs').length = some 1 := by
      show (bif Nat.ble 1 (rs'.length + 1) then some 1 else none) = _
      rw [Nat.ble_eq_true_of_le (by omega), cond_true]
    by_cases h0 : rs'.length = 0
    · obtain rfl := List.eq_nil_of_length_eq_zero h0
      refine ⟨.tail bl 0 1 bl, by simp only [sliceQ, tySeens, szPtr, h1, h2]; rfl, ⟨fun h' => by simp only [lenQ, tySeens]; rfl, fun k r hr => by simp at hr⟩⟩
    · refine ⟨.row bl 1 rs'.length rs'.length bl, ?_, vb_row s3 fun k r' hr => ?_⟩
      · simp only [sliceQ, tySeens, szPtr, h1, h2]
        rw [show Nat.blt 1 (r :: rs').length = true from Nat.ble_eq_true_of_le (by rw [List.length_cons]; omega), cond_true]
        rfl
      · obtain ⟨v, e1, e2⟩ := hl (k + 1) r' (by rw [List.getElem?_cons_succ]; exact hr)
        exact ⟨v, by rw [Nat.add_comm]; exact e1, e2⟩
theorem Ps.vs {Γ : Glob} {h : Hp} {lo : Nat} {v : SV} {ps : List SV} {rs : List (List (Int × Int))} (s : Ps h lo v ps rs) : Vs Γ h.next h v rs :=
  vs_row s.1 s.2.1 fun k r hr => by
    obtain ⟨b, M, h1, h2⟩ := s.2.2 k r hr
    exact ⟨_, h1, .inl ⟨b, M, rfl, h2⟩⟩
end Go.Proofs.YtjilmneaeocimaaGreatDoor.snap
