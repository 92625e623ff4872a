/-
  'Seen.All' RANGED OVER: a round for each author, rising; by the author's gen_snap.py, in the calculus of runs. | A RANGE OVER 'Seen.All' IN A FUNCTION's TEXT, of one that there is, or of none; by the author's gen_snap.py, in the calculus of runs.
-/
import Derived.Test.YtjilmneaeocimaaGreatDoorSpGF
namespace Go.Proofs.YtjilmneaeocimaaGreatDoor.snap
open Go Go.Proofs.YtjilmneaeocimaaGreatDoor.Ev

noncomputable def aLoop : Code := (inBlk (seqR (seqR (seqR (bodyOf Tryz.f30)))))
noncomputable def aB : Code := (inBlk (seqL (seqR (seqR (inLoop aLoop)))))
theorem ints_get {r : List (Int × Int)} {k : Nat} {p : Int × Int} (h : r[k]? = some p) : cut (((keys r).map iv)) k 1 = some [iv p.1] := by
  have : (((keys r).map iv).drop k).take 1 = [iv p.1] := by rw [List.take_one, List.head?_drop]; simp [keys, h]
  simp only [cut, this]
  rfl
set_option maxRecDepth 10000 in
theorem szInt : tySize Tryz.prog 3 = some 1 := rfl
set_option maxRecDepth 10000 in
theorem aggInt : tyAgg Tryz.prog 3 = some false := rfl
theorem rowIdxI {bl n k : Nat} (h : k < n) : indexAddrQ Tryz.prog 104 (.row bl 0 n n bl) (.lit (.int .i64 (Int.ofNat k))) = some (.ptr bl k) := by
  simp only [indexAddrQ, tyInts, szInt, idxQ]
  rw [show Nat.blt k n = true from Nat.ble_eq_true_of_le h, cond_true]
  simp only [Nat.zero_add, Nat.mul_one]
theorem load_rowI {Γ : Glob} {h : Hp} {b k c cv z : Nat} {cs : List SV} {v : SV} {e : TypeId} (hb : h.objs.get b = some (.row cs e c cv z)) (hv : cut cs k 1 = some [v]) : loadQ Tryz.prog Γ h 3 (.ptr b k) = some (v, [.cells b k [v]]) := by
  simp only [loadQ, aggInt, readCells, knownCells, hb, Option.bind_some, hv]
theorem keys_len (r : List (Int × Int)) : (keys r).length = r.length := List.length_map _
/-- What rounds do: from the state after k of them to the next one, or to an end; what was made since is let alone. -/
def Rounds (Γ : Glob) (B lo : Nat) (r : List (Int × Int)) (J : Nat → Hp → Prop) (Q : Hp → Prop) : Prop := ∀ k p h', r[k]? = some p → lo ≤ h'.next → J k h' → Runs Tryz.prog Γ (.round B [.lit (.int .i64 p.1), .lit (.int .i64 p.2)] h') fun o => (o.v = .lit (.bool true) ∧ J (k + 1) o.hp ∨ o.v = .lit (.bool false) ∧ Q o.hp) ∧ h'.next ≤ o.hp.next ∧ ∀ b, lo ≤ b → b < h'.next → o.hp.objs.get b = h'.objs.get b
set_option maxHeartbeats 8000000 in
set_option maxRecDepth 20000 in
theorem each_loop (Γ : Glob) (B M lo : Nat) (l r : List (Int × Int)) (hr : r.length ≤ 1000000) (hval : ∀ p ∈ r, val l p.1 = p.2) (J : Nat → Hp → Prop) (Q : Hp → Prop) (hstep : Rounds Γ B lo r J Q) (v : SV) (bl : Nat) (hlo : lo ≤ bl) (hloM : lo ≤ M) : ∀ (rem k : Nat), k + rem = r.length → ∀ (tm : T SV) (h : Hp),
    Fr.ev ⟨tm, 29, []⟩ (.tmp 0) = .yield B → Fr.ev ⟨tm, 29, []⟩ (.tmp 3) = .map M → Fr.ev ⟨tm, 29, []⟩ (.tmp 15) = v → Fr.ev ⟨tm, 29, []⟩ (.tmp 16) = .lit (.int .i64 (Int.ofNat r.length)) → Fr.ev ⟨tm, 29, []⟩ (.tmp 17) = .lit (.int .i64 (Int.ofNat k)) → At h M (.map (ent l 0) l.length) → (r ≠ [] → v = .row bl 0 r.length r.length bl ∧ At h bl (.row ((keys r).map iv) 3 r.length bl 1)) → lo ≤ h.next → J k h →
    Runs Tryz.prog Γ (.code aLoop none ⟨tm, 29, []⟩ h) fun o => ∃ ex tm' h' v0, o = ⟨ex, ⟨tm', 29, []⟩, h', v0⟩ ∧ (ex = .exit 0 ∧ J r.length h' ∨ ex = .ret ∧ Q h') ∧ h.next ≤ h'.next := by
  intro rem
  induction rem with
  | zero =>
    intro k hk tm h e0 e3 e15 e16 e17 hM hrow hn hJ
    obtain rfl : k = r.length := by omega
    refine runs_loop ?_
    refine runs_seq (runs_region ?_)
    refine ops_q (v := .lit (.bool false)) (fs := []) rfl (by simp only [quiet, e16, e17]; exact congrArg one (lssF (Int.lt_irrefl _))) rfl rfl ?_
    refine ops_nil ?_
    refine runs_seq (runs_cond false rfl (runs_exit ?_))
    exact ⟨_, _, _, _, rfl, .inl ⟨rfl, hJ⟩, Nat.le_refl _⟩
  | succ rem ih =>
    intro k hk tm h e0 e3 e15 e16 e17 hM hrow hn hJ
    have hkl : k < r.length := by omega
    obtain ⟨hv, hblA⟩ := hrow (by intro e; rw [e] at hkl; simp at hkl)
    have hbl := hblA.get
    have hp : r[k]? = some r[k] := List.getElem?_eq_getElem hkl
    have hmem : r[k] ∈ r := List.getElem_mem hkl
    generalize r[k] = p at hp hmem
    have hcut := ints_get hp
    have hkl2 := hkl
    have hlook : lookupQ Tryz.prog h 49 (.map M) (.lit (.int .i64 p.1)) false = some (.lit (.int .i64 p.2), [.obj M (.map (ent l 0) l.length)]) := by
      have := lookupI (a := p.1) hM.get
      rw [hval p hmem] at this
      exact this
    have hround := hstep k p h hp hn hJ
    refine runs_loop ?_
    refine runs_seq (runs_region ?_)
    refine ops_q (v := .lit (.bool true)) (fs := []) rfl (by simp only [quiet, e16, e17]; exact congrArg one (lssT (Int.ofNat_lt.2 hkl))) rfl rfl ?_
    refine ops_nil ?_
    refine runs_seq (runs_cond true rfl (runs_skip ?_))
    refine runs_seq (runs_block ?_)
    refine runs_seq ?_
    refine runs_region ?_
    refine ops_q (v := .ptr bl k) (fs := []) rfl (by simp only [quiet, ev_set, e15, e17, hv]; exact congrArg one (rowIdxI hkl2)) rfl rfl ?_
    refine ops_q (v := .lit (.int .i64 p.1)) (fs := [.cells bl k [iv p.1]]) rfl (by simp only [quiet, ev_set]; exact load_rowI hbl hcut) rfl rfl ?_
    refine ops_q (v := .lit (.int .i64 p.1)) (fs := []) rfl rfl rfl rfl ?_
    refine ops_nil ?_
    refine runs_seq (runs_region ?_)
    refine ops_q (v := .yield B) (fs := []) rfl (by simp only [quiet, ev_set, e0] <;> rfl) rfl rfl ?_
    refine ops_q (v := .lit (.int .i64 p.1)) (fs := []) rfl rfl rfl rfl ?_
    refine ops_q (v := .map M) (fs := []) rfl (by simp only [quiet, ev_set, e3] <;> rfl) rfl rfl ?_
    refine ops_q (v := .lit (.int .i64 p.1)) (fs := []) rfl rfl rfl rfl ?_
    refine ops_q (v := .lit (.int .i64 p.2)) (fs := [.obj M (.map (ent l 0) l.length)]) rfl (by simp only [quiet, ev_set]; exact hlook) rfl rfl ?_
    refine ops_yield (b := B) (args := [.lit (.int .i64 p.1), .lit (.int .i64 p.2)]) rfl rfl rfl rfl rfl ?_
    refine hround.mono ?_
    rintro ⟨ex, fr, h2, v2⟩ ⟨hcase, hn2, hold2⟩
    have hn2 : h.next ≤ h2.next := hn2
    have hold2 : ∀ b, lo ≤ b → b < h.next → h2.objs.get b = h.objs.get b := hold2
    rcases hcase with ⟨hv2, hJ2⟩ | ⟨hv2, hQ2⟩
    · have hv2 : v2 = .lit (.bool true) := hv2
      subst hv2
      have hM2 : At h2 M (.map (ent l 0) l.length) := ⟨Nat.lt_of_lt_of_le hM.lt hn2, (hold2 M hloM hM.lt).trans hM.get⟩
      have hbl2 : At h2 bl (.row ((keys r).map iv) 3 r.length bl 1) := ⟨Nat.lt_of_lt_of_le hblA.lt hn2, (hold2 bl hlo hblA.lt).trans hblA.get⟩
      refine ops_q (v := .lit (.bool false)) (fs := []) rfl (by simp only [quiet, ev_set] <;> rfl) rfl rfl ?_
      refine ops_nil ?_
      refine runs_cond false rfl (runs_skip ?_)
      rw [show ∀ fr hp v, atEnd 1 ⟨.normal, fr, hp, v⟩ = ⟨.normal, fr, hp, v⟩ from fun _ _ _ => rfl]
      refine runs_region ?_
      refine ops_q (v := .lit (.int .i64 (Int.ofNat (k + 1)))) (fs := []) rfl (by simp only [quiet, ev_set, e17]; exact congrArg one (addQ (c := Int.ofNat (k + 1)) rfl (by simp only [Int.ofNat_eq_natCast]; omega) (by simp only [Int.ofNat_eq_natCast]; omega))) rfl rfl ?_
      refine ops_q (v := .lit (.int .i64 (Int.ofNat (k + 1)))) (fs := []) rfl (by simp only [quiet, ev_set] <;> rfl) rfl rfl ?_
      refine ops_nil ?_
      refine (ih (k + 1) (by omega) _ h2 ?_ ?_ ?_ ?_ ?_ hM2 (fun _ => ⟨hv, hbl2⟩) (by omega) hJ2).mono ?_
      · simp only [ev_set]; exact e0
      · simp only [ev_set]; exact e3
      · simp only [ev_set]; exact e15
      · simp only [ev_set]; exact e16
      · simp only [ev_set]; rfl
      · rintro o ⟨ex, tm', h', v0, rfl, q1, q2⟩
        exact ⟨ex, tm', h', v0, rfl, q1, by omega⟩
    · have hv2 : v2 = .lit (.bool false) := hv2
      subst hv2
      refine ops_q (v := .lit (.bool true)) (fs := []) rfl (by simp only [quiet, ev_set] <;> rfl) rfl rfl ?_
      refine ops_nil ?_
      refine runs_cond true rfl (runs_ret ?_)
      rw [show ∀ fr hp v, atEnd 1 ⟨.ret, fr, hp, v⟩ = ⟨.ret, fr, hp, v⟩ from fun _ _ _ => rfl]
      exact ⟨_, _, _, _, rfl, .inr ⟨rfl, hQ2⟩, hn2⟩

set_option maxHeartbeats 8000000 in
set_option maxRecDepth 20000 in
/-- **A range over All**: the rounds are done in turn, or up to one that ends it. -/
theorem each_runs (Γ : Glob) (C b M0 B : Nat) (r : List (Int × Int)) (hr : r.length ≤ 1000000) (h : Hp) (hC : At h C (.cells [.ptr b 0] 26)) (hs : SeenAt h b M0 r) (J : Nat → Hp → Prop) (Q : Hp → Prop) (h0 : ∀ h', Kept h.next h h' → J 0 h') (hstep : Rounds Γ B h.next r J Q) :
    Runs Tryz.prog Γ (.call 30 [.yield B, .ptr C 0] h) fun o => (J r.length o.hp ∨ Q o.hp) ∧ h.next ≤ o.hp.next := by
  obtain ⟨ob, ⟨l, mp, hlr⟩, asc, good⟩ := hs
  have hl : l.length ≤ 1000000 := by
    have := (hlr.keys asc).length_eq
    rw [keys, keys, List.length_map, List.length_map] at this
    omega
  have hval : ∀ p ∈ r, val l p.1 = p.2 := fun p hp => (hlr.val asc good.nz p.1).trans (val_mem asc.nodup hp)
  refine runs_call Tryz.func30 rfl ?_
  refine runs_seq ?_
  refine runs_seq ?_
  refine runs_region ?_
  refine ops_q (v := .ptr b 0) (fs := [.cells C 0 [.ptr b 0]]) rfl (by simp only [quiet]; exact load_cell rfl hC.get rfl) rfl rfl ?_
  refine ops_q (v := .lit (.bool false)) (fs := []) rfl rfl rfl rfl ?_
  refine ops_nil ?_
  refine runs_cond false rfl ?_
  refine runs_skip ?_
  refine runs_seq ?_
  refine runs_region ?_
  refine ops_q (v := .ptr b 0) (fs := [.cells C 0 [.ptr b 0]]) rfl (by simp only [quiet, ev_set]; exact load_cell rfl hC.get rfl) rfl rfl ?_
  refine ops_q (v := .ptr b 0) (fs := []) rfl rfl rfl rfl ?_
  refine ops_q (v := .ptr b 0) (fs := []) rfl rfl rfl rfl ?_
  refine ops_q (v := .map M0) (fs := [.cells b 0 [.map M0]]) rfl (by simp only [quiet, ev_set]; exact load_cell rfl ob.get rfl) rfl rfl ?_
  refine ops_c (f := 31) (args := [.map M0]) rfl rfl rfl (clone_body Tryz.func31 rfl) rfl rfl ?_
  refine (mclone_runs Γ M0 (ent l 0) l.length h mp).mono ?_
  rintro ⟨ex, fr, H1, v1⟩ ⟨hv1, k1, g1, n1⟩
  have hv1 : v1 = .map h.next := hv1
  subst hv1
  have k1 : Kept h.next h H1 := k1
  have g1 : At H1 h.next (.map (ent l 0) l.length) := g1
  have hC_1 := hC.kept k1
  have ob_1 := ob.kept k1
  have mp_1 := mp.kept k1
  refine ops_q (v := .map h.next) (fs := []) rfl rfl rfl rfl ?_
  refine ops_nil ?_
  refine runs_seq ?_
  refine runs_region ?_
  refine ops_q (v := .map h.next) (fs := []) rfl rfl rfl rfl ?_
  refine ops_c (f := 33) (args := [.map h.next]) rfl rfl rfl (clone_body Tryz.func33 rfl) rfl rfl ?_
  refine (mkeys_runs Γ h.next H1).mono ?_
  rintro ⟨ex, fr, H2, v2⟩ ⟨hv2, k2, g2, n2⟩
  have hv2 : v2 = .func (.func 46) [] [.ptr H1.next 0] := hv2
  subst hv2
  have k2 : Kept H1.next H1 H2 := k2
  have g2 : At H2 H1.next (.cells [.map h.next] 49) := g2
  have hC_2 := hC_1.kept k2
  have ob_2 := ob_1.kept k2
  have mp_2 := mp_1.kept k2
  have g1_2 := g1.kept k2
  refine ops_c (f := 32) (args := [.func (.func 46) [] [.ptr H1.next 0]]) rfl rfl rfl (clone_body Tryz.func32 rfl) rfl rfl ?_
  refine (sorted_runs Γ h.next _ l r hl hlr asc H2 g2 g1_2).mono ?_
  rintro ⟨ex, fr, H3, v⟩ ⟨bl, hrow, k3⟩
  have k3 : Kept H2.next H2 H3 := k3
  have hrow : RowIs H3 H2.next bl 3 1 v (ints (keys r)) := hrow
  have hC_3 := hC_2.kept k3
  have ob_3 := ob_2.kept k3
  have mp_3 := mp_2.kept k3
  have g1_3 := g1_2.kept k3
  have g2_3 := g2.kept k3
  refine ops_q (v := .lit (.int .i64 (Int.ofNat r.length))) (fs := []) rfl (by have := RowIs.len (h' := H3) tyInts hrow (nilInts _ _ _); rw [ints, List.length_map, keys_len] at this; exact this) rfl rfl ?_
  refine ops_q (v := .lit (.int .i64 (Int.ofNat 0))) (fs := []) rfl rfl rfl rfl ?_
  refine ops_nil ?_
  have hb : ∃ bl, h.next ≤ bl ∧ (r ≠ [] → v = .row bl 0 r.length r.length bl ∧ At H3 bl (.row ((keys r).map iv) 3 r.length bl 1)) := by
    rcases hrow with ⟨_, e⟩ | ⟨e1, e2, e3, e4⟩
    · refine ⟨h.next, Nat.le_refl _, fun hne => absurd ?_ hne⟩
      have : (ints (keys r)).length = 0 := by rw [e]; rfl
      rw [ints, List.length_map, keys_len] at this
      exact List.eq_nil_of_length_eq_zero this
    · rw [ints_flat] at e4
      rw [ints, List.length_map, keys_len] at e1 e4
      have := k1.next
      have := k2.next
      exact ⟨bl, by omega, fun _ => ⟨e1, e3, e4⟩⟩
  obtain ⟨bl, hlo, hbl⟩ := hb
  have hnn : h.next ≤ H3.next := Nat.le_trans k1.next (Nat.le_trans k2.next k3.next)
  refine runs_block ((each_loop Γ B h.next h.next l r hr hval J Q hstep v bl hlo (Nat.le_refl _) r.length 0 (Nat.zero_add _) _ H3 rfl rfl rfl rfl rfl g1_3 hbl hnn (h0 H3 (k1.then (k2.then k3)))).mono ?_)
  rintro o ⟨ex, tm', h', v0, rfl, hcase, hn⟩
  rcases hcase with ⟨rfl, hJ⟩ | ⟨rfl, hQ⟩
  · rw [show ∀ fr hp v, atEnd 0 ⟨.exit 0, fr, hp, v⟩ = ⟨.normal, fr, hp, v⟩ from fun _ _ _ => rfl]
    exact ⟨_, rfl, .inl hJ, Nat.le_trans hnn hn⟩
  · rw [show ∀ fr hp v, atEnd 0 ⟨.ret, fr, hp, v⟩ = ⟨.ret, fr, hp, v⟩ from fun _ _ _ => rfl]
    exact ⟨_, rfl, .inr hQ, Nat.le_trans hnn hn⟩

end Go.Proofs.YtjilmneaeocimaaGreatDoor.snap
namespace Go.Proofs.YtjilmneaeocimaaGreatDoor.snap
open Go Go.Proofs.YtjilmneaeocimaaGreatDoor.Ev

/-- What one has seen, or nobody. -/
def SeenV (h : Hp) (v : SV) (r : List (Int × Int)) : Prop := (∃ b M, v = .ptr b 0 ∧ SeenAt h b M r) ∨ (v = .lit (.pointer none) ∧ r = [])
theorem SeenV.kept {h H : Hp} {v : SV} {r : List (Int × Int)} (s : SeenV h v r) (k : Kept h.next h H) : SeenV H v r := by
  rcases s with ⟨b, M, rfl, s⟩ | s
  · exact .inl ⟨b, M, rfl, s.kept k⟩
  · exact .inr s
theorem SeenV.cell {h : Hp} {v : SV} {r : List (Int × Int)} (s : SeenV h v r) : v.cells = [v] := by
  rcases s with ⟨b, M, rfl, s⟩ | ⟨rfl, _⟩ <;> rfl
theorem SeenV.asc {h : Hp} {v : SV} {r : List (Int × Int)} (s : SeenV h v r) : Asc r := by
  rcases s with ⟨b, M, rfl, s⟩ | ⟨_, rfl⟩
  · exact s.asc
  · exact List.Pairwise.nil
theorem SeenV.good {h : Hp} {v : SV} {r : List (Int × Int)} (s : SeenV h v r) : Good r := by
  rcases s with ⟨b, M, rfl, s⟩ | ⟨_, rfl⟩
  · exact s.good
  · exact fun _ hp => by cases hp
set_option maxHeartbeats 8000000 in
set_option maxRecDepth 20000 in
theorem each_nil (Γ : Glob) (C B : Nat) (h : Hp) (hC : At h C (.cells [.lit (.pointer none)] 26)) : Runs Tryz.prog Γ (.call 30 [.yield B, .ptr C 0] h) fun o => o.hp = h := by
  refine runs_call Tryz.func30 rfl ?_
  refine runs_seq ?_
  refine runs_seq ?_
  refine runs_region ?_
  refine ops_q (v := .lit (.pointer none)) (fs := [.cells C 0 [.lit (.pointer none)]]) rfl (by simp only [quiet]; exact load_cell rfl hC.get rfl) rfl rfl ?_
  refine ops_q (v := .lit (.bool true)) (fs := []) rfl rfl rfl rfl ?_
  refine ops_nil ?_
  refine runs_cond true rfl ?_
  refine runs_ret ?_
  exact ⟨_, rfl, rfl⟩
set_option maxHeartbeats 8000000 in
set_option maxRecDepth 20000 in
/-- Rounds over what one has seen, or over nothing. -/
theorem every_runs (Γ : Glob) (C B : Nat) (v : SV) (r : List (Int × Int)) (hr : r.length ≤ 1000000) (h : Hp) (hC : At h C (.cells [v] 26)) (hs : SeenV h v r) (J : Nat → Hp → Prop) (Q : Hp → Prop) (h0 : ∀ h', Kept h.next h h' → J 0 h') (hstep : Rounds Γ B h.next r J Q) :
    Runs Tryz.prog Γ (.call 30 [.yield B, .ptr C 0] h) fun o => (J r.length o.hp ∨ Q o.hp) ∧ h.next ≤ o.hp.next := by
  rcases hs with ⟨b, M, rfl, hs⟩ | ⟨rfl, rfl⟩
  · exact each_runs Γ C b M B r hr h hC hs J Q h0 hstep
  · refine (each_nil Γ C B h hC).mono fun o ho => ?_
    rw [ho]
    exact ⟨.inl (h0 h (Kept.refl _ _)), Nat.le_refl _⟩
theorem upd_same {h : Hp} {b : Nat} {o : AObj} : (h.upd b o).objs.get b = some o := get_same
theorem roundEnd_ret {B : Nat} {fr : Fr} {h : Hp} {x : ALoop} {v : SV} (hB : h.objs.get B = some (.loop x)) : roundEnd B ⟨.ret, fr, h, v⟩ = some [⟨.ret, fr, h.upd B (.loop { x with state := .done, pending := some .ret }), .lit (.bool false)⟩] := by
  simp only [roundEnd, endRoundE, hB]
  rfl
theorem put_two {tm : T SV} {n a b : Nat} {x y : SV} (ha : Nat.blt a n = true) (hb : Nat.blt b n = true) : setAll [(a, x), (b, y)] ⟨tm, n, []⟩ = some ⟨(tm.set a x).set b y, n, []⟩ := by
  simp only [setAll, Fr.put, ha, hb, cond_true]
/-- **A range over All**, in a function's text. -/
theorem range_all {Γ : Glob} {ms : List Nat} {tm : T SV} {n g pa pb C : Nat} {v : SV} {r : List (Int × Int)} {h : Hp} {asg body : Code} {Φ : Out → Prop} (I : Nat → Hp → Prop) (Q : Hp → Prop) (trd : Int × Int → T SV)
    (hr : r.length ≤ 1000000) (ha : Nat.blt pa n = true) (hb : Nat.blt pb n = true) (hg : Fr.ev ⟨tm, n, ms⟩ (.tmp g) = .func (.func 30) [] [.ptr C 0]) (hC : At h C (.cells [v] 26)) (hs : SeenV h v r)
    (hI : ∀ k h1 h2, I k h1 → Kept h.next h1 h2 → I k h2) (hQ : ∀ h1 h2, Q h1 → Kept h.next h1 h2 → Q h2) (h0 : I 0 h)
    (hasg : ∀ p h', Runs Tryz.prog Γ (.code asg (some (h.next + 1)) ⟨(tm.set pa (.lit (.int .i64 p.1))).set pb (.lit (.int .i64 p.2)), n, []⟩ h') fun o => ∃ v0, o = ⟨.normal, ⟨trd p, n, []⟩, h', v0⟩)
    (hbody : ∀ k p h', r[k]? = some p → h.next + 2 ≤ h'.next → I k h' → Runs Tryz.prog Γ (.code body (some (h.next + 1)) ⟨trd p, n, []⟩ h') fun o => ((∃ fr v0 H, o = ⟨.normal, fr, H, v0⟩ ∧ I (k + 1) H) ∨ (∃ fr v0 H, o = ⟨.ret, fr, H, v0⟩ ∧ Q H)) ∧ h'.next ≤ o.hp.next ∧ ∀ c, h.next ≤ c → c < h'.next → o.hp.objs.get c = h'.objs.get c)
    (k1 : ∀ h' v0, I r.length h' → At h' h.next (.deferred true) → Φ ⟨.normal, ⟨tm, n, h.next :: ms⟩, h', v0⟩) (k2 : ∀ h' v0, Q h' → At h' h.next (.deferred true) → Φ ⟨.ret, ⟨tm, n, h.next :: ms⟩, h', v0⟩) :
    Runs Tryz.prog Γ (.code (.rangeFunc (.tmp g) #[pa, pb] asg body) none ⟨tm, n, ms⟩ h) Φ := by
  refine runs_range (f := 30) (args := [.yield (h.next + 1), .ptr C 0]) (by rw [hg]; rfl) ?_
  generalize hx : (⟨.ready, none, 0, tm, n, #[pa, pb], asg, body, h.next⟩ : ALoop) = x
  have hx1 : x.state = .ready := by rw [← hx]
  have hx2 : x.pending = none := by rw [← hx]
  have hxe : ({ { x with state := .busy } with state := .ready, pending := none } : ALoop) = x := by rw [← hx]
  generalize hh2 : (⟨(h.objs.set h.next (.deferred true)).set (h.next + 1) (.loop x), h.next + 2⟩ : Hp) = h2
  have hn2 : h2.next = h.next + 2 := by rw [← hh2]
  have hk2 : Kept h.next h h2 := ⟨by omega, fun b hb => by rw [← hh2]; exact (get_ne (by omega)).trans (get_ne (by omega))⟩
  have hB2 : At h2 (h.next + 1) (.loop x) := ⟨by omega, by rw [← hh2]; exact get_same⟩
  have hD2 : At h2 h.next (.deferred true) := ⟨by omega, by rw [← hh2]; exact (get_ne (by omega)).trans get_same⟩
  refine (every_runs Γ C (h.next + 1) v r hr h2 (hC.kept hk2) (hs.kept hk2) (fun k h' => I k h' ∧ At h' (h.next + 1) (.loop x) ∧ At h' h.next (.deferred true)) (fun h' => Q h' ∧ At h' (h.next + 1) (.loop { x with state := .done, pending := some .ret }) ∧ At h' h.next (.deferred true)) (fun h' hk => ⟨hI 0 h2 h' (hI 0 h h2 h0 hk2) (hk.less hk2.next), hB2.kept hk, hD2.kept hk⟩) ?_).mono ?_
  · intro k p h' hp hlo ⟨j1, j2, j3⟩
    have hnb : Nat.beq [SV.lit (.int .i64 p.1), SV.lit (.int .i64 p.2)].length x.params.size = true := by rw [← hx]; rfl
    refine runs_round (fr := ⟨(tm.set pa (.lit (.int .i64 p.1))).set pb (.lit (.int .i64 p.2)), n, []⟩) j2.get hnb (by rw [← hx]; exact put_two ha hb) ?_
    have hxa : x.assign = asg := by rw [← hx]
    have hxb : x.body = body := by rw [← hx]
    have hasg := hasg p h'
    rw [← hxa] at hasg
    have hbody := fun h3 => hbody k p h3 hp
    rw [← hxb] at hbody
    refine hasg.mono ?_
    rintro o ⟨v0, rfl⟩
    refine ⟨x, rfl, j2.get, hx1, ?_⟩
    generalize hh3 : h'.upd (h.next + 1) (.loop { x with state := .busy }) = h3
    have hn3 : h3.next = h'.next := by rw [← hh3]; rfl
    have hg3 : ∀ c, c ≠ h.next + 1 → h3.objs.get c = h'.objs.get c := fun c hc => by rw [← hh3]; exact get_ne hc
    have hB3 : h3.objs.get (h.next + 1) = some (.loop { x with state := .busy }) := by rw [← hh3]; exact get_same
    refine (hbody h3 (by omega) (hI k h' h3 j1 ⟨by omega, fun c hc => hg3 c (by omega)⟩)).mono ?_
    rintro o ⟨hcase, hn, hold⟩
    have hB4 : o.hp.objs.get (h.next + 1) = some (.loop { x with state := .busy }) := (hold _ (by omega) (by omega)).trans hB3
    have hD4 : o.hp.objs.get h.next = some (.deferred true) := (hold _ (by omega) (by omega)).trans ((hg3 _ (by omega)).trans j3.get)
    rcases hcase with ⟨fr, v1, H, rfl, i1⟩ | ⟨fr, v1, H, rfl, i1⟩
    · refine ⟨_, roundEnd_normal hB4, .inl ⟨rfl, hI _ _ _ i1 ⟨Nat.le_refl _, fun c hc => get_ne (by omega)⟩, ⟨by show h.next + 1 < H.next; have : h3.next ≤ H.next := hn; omega, ?_⟩, ⟨by show h.next < H.next; have : h3.next ≤ H.next := hn; omega, (get_ne (by omega)).trans hD4⟩⟩, by show h'.next ≤ H.next; have : h3.next ≤ H.next := hn; omega, fun c hc1 hc2 => ?_⟩
      · rw [hxe]; exact get_same
      · refine (get_ne (by omega)).trans ((hold c (by omega) (by omega)).trans (hg3 c (by omega)))
    · refine ⟨_, roundEnd_ret hB4, .inr ⟨rfl, hQ _ _ i1 ⟨Nat.le_refl _, fun c hc => get_ne (by omega)⟩, ⟨by show h.next + 1 < H.next; have : h3.next ≤ H.next := hn; omega, upd_same⟩, ⟨by show h.next < H.next; have : h3.next ≤ H.next := hn; omega, (get_ne (by omega)).trans hD4⟩⟩, by show h'.next ≤ H.next; have : h3.next ≤ H.next := hn; omega, fun c hc1 hc2 => ?_⟩
      refine (get_ne (by omega)).trans ((hold c (by omega) (by omega)).trans (hg3 c (by omega)))
  · rintro ⟨ex, fr, h3, v3⟩ ⟨hcase, hn⟩
    rcases hcase with ⟨i1, i2, i3⟩ | ⟨i1, i2, i3⟩
    · have i2 : At h3 (h.next + 1) (.loop x) := i2
      have i3 : At h3 h.next (.deferred true) := i3
      refine ⟨⟨.normal, ⟨tm, n, h.next :: ms⟩, h3.upd (h.next + 1) (.loop { x with state := .exhausted }), .lit undef⟩, ?_, k1 _ _ (hI _ _ _ i1 ⟨Nat.le_refl _, fun c hc => get_ne (by omega)⟩) ⟨i3.lt, (get_ne (by omega)).trans i3.get⟩⟩
      simp only [loopEnd, i2.get, hx1, hx2]
    · have i2 : At h3 (h.next + 1) (.loop { x with state := .done, pending := some .ret }) := i2
      have i3 : At h3 h.next (.deferred true) := i3
      refine ⟨⟨.ret, ⟨tm, n, h.next :: ms⟩, h3.upd (h.next + 1) (.loop { { x with state := .done, pending := some .ret } with state := .exhausted }), .lit undef⟩, ?_, k2 _ _ (hQ _ _ i1 ⟨Nat.le_refl _, fun c hc => get_ne (by omega)⟩) ⟨i3.lt, (get_ne (by omega)).trans i3.get⟩⟩
      simp only [loopEnd, i2.get]

end Go.Proofs.YtjilmneaeocimaaGreatDoor.snap
