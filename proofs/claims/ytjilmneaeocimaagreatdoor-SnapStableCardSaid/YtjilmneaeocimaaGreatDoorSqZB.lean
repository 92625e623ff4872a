/-
  THE DOCUMENT's Stable: its middle loop; by the author's gen_snap.py, in the calculus of runs. | THE DOCUMENT's Stable: its outer loop, and the whole; by the author's gen_snap.py, in the calculus of runs.
-/
import Derived.Test.YtjilmneaeocimaaGreatDoorSqZA
namespace Go.Proofs.YtjilmneaeocimaaGreatDoor.snap
open Go Go.Proofs.YtjilmneaeocimaaGreatDoor.Ev

theorem store_snd {P : Program} {Γ : Glob} {h : Hp} {ρ : Operand → SV} {t : TypeId} {a x : Operand} {b : Nat} {u v w : SV} {e : TypeId} (hs : tySize P t = some 1) (ha : ρ a = .ptr b 1) (hx : ρ x = v) (h1 : SV.one v = true) (hb : h.objs.get b = some (.cells [u, w] e)) :
    effect P Γ h ρ (.store t a x) = some [(.lit undef, ⟨h.objs.set b (.cells [u, v] e), h.next⟩)] := by
  have hc : v.cells = [v] := by
    unfold SV.cells
    split
    · cases h1
    · cases h1
    · rfl
  refine store_eff hs ha hx (by rw [hc]; rfl) hb ?_
  rw [hc]
  simp only [splice, List.all_cons, List.all_nil, h1, Bool.and_true]
  rfl
theorem least_cons (s : List (Int × Int)) (l : List (List (Int × Int))) (a n : Int) : least (s :: l) a n = least l a (min n (val s a)) := rfl
theorem least_snoc (s : List (Int × Int)) (l : List (List (Int × Int))) (a n : Int) : least (l ++ [s]) a n = min (least l a n) (val s a) := by
  rw [least, List.foldl_append]
  rfl
set_option maxHeartbeats 8000000 in
set_option maxRecDepth 20000 in
theorem sk_body (Γ : Glob) (A lo k : Nat) (a m : Int) (v : SV) (vs : List SV) (rs : List (List (Int × Int))) (r : List (Int × Int)) (ha : Asc r) (hr0 : r.length ≤ 1000000) (tm : T SV) (h : Hp) (e0 : Fr.ev ⟨tm, 76, []⟩ (.tmp 0) = v) (e5 : Fr.ev ⟨tm, 76, []⟩ (.tmp 5) = .ptr A 0) (e6 : Fr.ev ⟨tm, 76, []⟩ (.tmp 6) = .lit (.int .i64 (Int.ofNat k))) (hA : At h A (.cells [.lit (.int .i64 a), .lit (.int .i64 m)] 44)) (hL : Ls h lo v vs rs) (hk : rs[k]? = some r) :
    Runs Tryz.prog Γ (.code skB none ⟨tm, 76, []⟩ h) fun o => ∃ tm' h' v0, o = ⟨.normal, ⟨tm', 76, []⟩, h', v0⟩ ∧ (∀ t ∈ [0, 3, 4, 5, 6], Fr.ev ⟨tm', 76, []⟩ (.tmp t) = Fr.ev ⟨tm, 76, []⟩ (.tmp t)) ∧ At h' A (.cells [.lit (.int .i64 a), .lit (.int .i64 (min m (val r a)))] 44) ∧ (∀ c, c ≠ A → h'.objs.get c = h.objs.get c) ∧ h'.next = h.next := by
  refine runs_seq ?_
  refine runs_region ?_
  refine ops_q (v := .lit (.int .i64 0)) (fs := []) rfl rfl rfl rfl ?_
  refine ops_nil ?_
  refine runs_seq (runs_seq ?_)
  refine runs_region ?_
  refine ops_q (v := .lit (.int .i64 (Int.ofNat 0))) (fs := []) rfl rfl rfl rfl ?_
  refine ops_nil ?_
  refine runs_block ((sj_loop Γ A lo k a m v vs rs r ha hr0 h hA hL hk r.length 0 (Nat.zero_add _) _ ?_ ?_ ?_ ?_ ?_).mono ?_)
  · simp only [ev_set]; exact e0
  · simp only [ev_set]; exact e5
  · simp only [ev_set]; exact e6
  · simp only [ev_set] <;> rfl
  · simp only [ev_set] <;> rfl
  rintro o ⟨tm', v0, rfl, hs, s7⟩
  rw [show ∀ fr hp v, atEnd 4 ⟨.exit 4, fr, hp, v⟩ = ⟨.normal, fr, hp, v⟩ from fun _ _ _ => rfl]
  have z0 := hs 0 (by decide)
  have z3 := hs 3 (by decide)
  have z4 := hs 4 (by decide)
  have z5 := hs 5 (by decide)
  have z6 := hs 6 (by decide)
  simp only [ev_set] at z0 z3 z4 z5 z6
  have z3 : Fr.ev ⟨tm', 76, []⟩ (.tmp 3) = Fr.ev ⟨tm, 76, []⟩ (.tmp 3) := z3
  have z4 : Fr.ev ⟨tm', 76, []⟩ (.tmp 4) = Fr.ev ⟨tm, 76, []⟩ (.tmp 4) := z4
  have s5 : Fr.ev ⟨tm', 76, []⟩ (.tmp 5) = .ptr A 0 := z5.trans e5
  by_cases hlt : val r a < m
  · rw [show min m (val r a) = val r a by omega]
    refine runs_seq ?_
    refine runs_region ?_
    refine ops_q (v := .lit (.int .i64 (val r a))) (fs := []) rfl (by simp only [quiet, s7] <;> rfl) rfl rfl ?_
    refine ops_q (v := .ptr A 1) (fs := []) rfl (by simp only [quiet, ev_set, s5] <;> rfl) rfl rfl ?_
    refine ops_q (v := .lit (.int .i64 m)) (fs := [.cells A 1 [.lit (.int .i64 m)]]) rfl (by simp only [quiet, ev_set]; exact load_cell rfl hA.get rfl) rfl rfl ?_
    refine ops_q (v := .lit (.bool true)) (fs := []) rfl (by simp only [quiet, ev_set]; exact congrArg one (lssT hlt)) rfl rfl ?_
    refine ops_nil ?_
    refine runs_cond true rfl ?_
    refine runs_region ?_
    refine ops_q (v := .lit (.int .i64 (val r a))) (fs := []) rfl (by simp only [quiet, ev_set, s7] <;> rfl) rfl rfl ?_
    refine ops_q (v := .ptr A 1) (fs := []) rfl (by simp only [quiet, ev_set, s5] <;> rfl) rfl rfl ?_
    refine ops_e0 (v := .lit undef) (hp' := ⟨h.objs.set A (.cells [.lit (.int .i64 a), .lit (.int .i64 (val r a))] 44), h.next⟩) rfl rfl rfl (store_snd (v := .lit (.int .i64 (val r a))) (u := .lit (.int .i64 a)) (w := .lit (.int .i64 m)) rfl (by simp only [ev_set] <;> rfl) (by simp only [ev_set] <;> rfl) rfl hA.get) (Nat.le_refl _) rfl ?_
    refine ops_nil ?_
    exact ⟨_, _, _, rfl, slots5 (by simp only [ev_set]; exact z0) (by simp only [ev_set]; exact z3) (by simp only [ev_set]; exact z4) (by simp only [ev_set]; exact z5) (by simp only [ev_set]; exact z6), ⟨hA.lt, get_same⟩, fun c hc => get_ne hc, rfl⟩
  · rw [show min m (val r a) = m by omega]
    refine runs_seq ?_
    refine runs_region ?_
    refine ops_q (v := .lit (.int .i64 (val r a))) (fs := []) rfl (by simp only [quiet, s7] <;> rfl) rfl rfl ?_
    refine ops_q (v := .ptr A 1) (fs := []) rfl (by simp only [quiet, ev_set, s5] <;> rfl) rfl rfl ?_
    refine ops_q (v := .lit (.int .i64 m)) (fs := [.cells A 1 [.lit (.int .i64 m)]]) rfl (by simp only [quiet, ev_set]; exact load_cell rfl hA.get rfl) rfl rfl ?_
    refine ops_q (v := .lit (.bool false)) (fs := []) rfl (by simp only [quiet, ev_set]; exact congrArg one (lssF hlt)) rfl rfl ?_
    refine ops_nil ?_
    refine runs_cond false rfl ?_
    refine runs_skip ?_
    exact ⟨_, _, _, rfl, slots5 (by simp only [ev_set]; exact z0) (by simp only [ev_set]; exact z3) (by simp only [ev_set]; exact z4) (by simp only [ev_set]; exact z5) (by simp only [ev_set]; exact z6), hA, fun c _ => rfl, rfl⟩

/-- A block of two cells is turned: lists stay. -/
theorem IdR.but {h h' : Hp} {lo A : Nat} {v x y : SV} {r : List (Int × Int)} {e : TypeId} (s : IdR h lo v r) (hA : At h A (.cells [x, y] e)) (hf : ∀ c, c ≠ A → h'.objs.get c = h.objs.get c) (hn : h.next ≤ h'.next) : IdR h' lo v r := by
  rcases s with ⟨e, s | ⟨b, s1, s2⟩⟩ | ⟨bl, s1, s2, s3⟩
  · exact .inl ⟨e, .inl s⟩
  · refine .inl ⟨e, .inr ⟨b, s1, ⟨Nat.lt_of_lt_of_le s2.lt hn, (hf b ?_).trans s2.get⟩⟩⟩
    rintro rfl
    have := s2.get.symm.trans hA.get
    cases this
  · refine .inr ⟨bl, s1, s2, ⟨Nat.lt_of_lt_of_le s3.lt hn, (hf bl ?_).trans s3.get⟩⟩
    rintro rfl
    have := s3.get.symm.trans hA.get
    cases this
theorem Ls.but {h h' : Hp} {lo A : Nat} {v x y : SV} {vs : List SV} {rs : List (List (Int × Int))} {e : TypeId} (s : Ls h lo v vs rs) (hA : At h A (.cells [x, y] e)) (hf : ∀ c, c ≠ A → h'.objs.get c = h.objs.get c) (hn : h.next ≤ h'.next) : Ls h' lo v vs rs := by
  refine ⟨?_, s.2.1, fun k r hr => ?_⟩
  · rcases s.1 with s | ⟨bl, s1, s2, s3⟩
    · exact .inl s
    · refine .inr ⟨bl, s1, s2, ⟨Nat.lt_of_lt_of_le s3.lt hn, (hf bl ?_).trans s3.get⟩⟩
      rintro rfl
      have := s3.get.symm.trans hA.get
      cases this
  · obtain ⟨u, lo', h1, h2⟩ := s.2.2 k r hr
    exact ⟨u, lo', h1, h2.but hA hf hn⟩
set_option maxHeartbeats 8000000 in
set_option maxRecDepth 20000 in
theorem sk_loop (Γ : Glob) (A lo : Nat) (a n0 : Int) (v : SV) (vs : List SV) (r0 : List (Int × Int)) (rs : List (List (Int × Int))) (hag : ∀ r ∈ rs, Asc r ∧ r.length ≤ 1000000) (hrs : rs.length ≤ 1000000) : ∀ (rem k : Nat), k + rem = rs.length → ∀ (tm : T SV) (h : Hp), Fr.ev ⟨tm, 76, []⟩ (.tmp 0) = v → Fr.ev ⟨tm, 76, []⟩ (.tmp 5) = .ptr A 0 → Fr.ev ⟨tm, 76, []⟩ (.tmp 6) = .lit (.int .i64 (Int.ofNat (k + 1))) → At h A (.cells [.lit (.int .i64 a), .lit (.int .i64 (least (rs.take k) a n0))] 44) → Ls h lo v vs (r0 :: rs) →
    Runs Tryz.prog Γ (.code skLoop none ⟨tm, 76, []⟩ h) fun o => ∃ tm' h' v0, o = ⟨.exit 2, ⟨tm', 76, []⟩, h', v0⟩ ∧ (∀ t ∈ [0, 3, 4, 5], Fr.ev ⟨tm', 76, []⟩ (.tmp t) = Fr.ev ⟨tm, 76, []⟩ (.tmp t)) ∧ At h' A (.cells [.lit (.int .i64 a), .lit (.int .i64 (least rs a n0))] 44) ∧ (∀ c, c ≠ A → h'.objs.get c = h.objs.get c) ∧ h'.next = h.next := by
  intro rem
  induction rem with
  | zero =>
    intro k hk tm h e0 e5 e6 hA hL
    have hx0 : k = rs.length := by omega
    rw [show rs.take k = rs by rw [hx0, List.take_length]] at hA
    refine runs_loop ?_
    refine runs_seq (runs_seq ?_)
    refine runs_region ?_
    refine ops_q (v := .lit (.int .i64 (Int.ofNat (k + 1)))) (fs := []) rfl (by simp only [quiet, e6] <;> rfl) rfl rfl ?_
    refine ops_q (v := v) (fs := []) rfl (by simp only [quiet, ev_set, e0] <;> rfl) rfl rfl ?_
    refine ops_q (v := .lit (.int .i64 (Int.ofNat (r0 :: rs).length))) (fs := []) rfl (by simp only [quiet]; exact hL.len _) rfl rfl ?_
    refine ops_q (v := .lit (.bool false)) (fs := []) rfl (by simp only [quiet, ev_set]; exact congrArg one (lssF (by simp only [Int.ofNat_eq_natCast, List.length_cons]; omega))) rfl rfl ?_
    refine ops_nil ?_
    refine runs_cond false rfl (runs_exit ?_)
    exact ⟨_, _, _, rfl, slots4 (by simp only [ev_set] <;> rfl) (by simp only [ev_set] <;> rfl) (by simp only [ev_set] <;> rfl) (by simp only [ev_set] <;> rfl), hA, fun _ _ => rfl, rfl⟩
  | succ rem ih =>
    intro k hk tm h e0 e5 e6 hA hL
    have hkl : k < rs.length := by omega
    have hd : rs[k]? = some rs[k] := List.getElem?_eq_getElem hkl
    have hmem := List.getElem_mem hkl
    have hsn : rs.take (k + 1) = rs.take k ++ [rs[k]] := (List.take_append_getElem hkl).symm
    generalize rs[k] = r at hd hmem hsn
    have hls : least (rs.take (k + 1)) a n0 = min (least (rs.take k) a n0) (val r a) := by rw [hsn, least_snoc]
    refine runs_loop ?_
    refine runs_seq (runs_seq ?_)
    refine runs_region ?_
    refine ops_q (v := .lit (.int .i64 (Int.ofNat (k + 1)))) (fs := []) rfl (by simp only [quiet, e6] <;> rfl) rfl rfl ?_
    refine ops_q (v := v) (fs := []) rfl (by simp only [quiet, ev_set, e0] <;> rfl) rfl rfl ?_
    refine ops_q (v := .lit (.int .i64 (Int.ofNat (r0 :: rs).length))) (fs := []) rfl (by simp only [quiet]; exact hL.len _) rfl rfl ?_
    refine ops_q (v := .lit (.bool true)) (fs := []) rfl (by simp only [quiet, ev_set]; exact congrArg one (lssT (Int.ofNat_lt.2 (by rw [List.length_cons]; omega)))) rfl rfl ?_
    refine ops_nil ?_
    refine runs_cond true rfl (runs_skip ?_)
    refine runs_seq (runs_block ((sk_body Γ A lo (k + 1) a _ v vs (r0 :: rs) r (hag r hmem).1 (hag r hmem).2 _ h (by simp only [ev_set]; exact e0) (by simp only [ev_set]; exact e5) (by simp only [ev_set]; exact e6) hA hL (by rw [List.getElem?_cons_succ]; exact hd)).mono ?_))
    rintro o ⟨tm', h', v0, rfl, hs, hA', hf, hn⟩
    rw [← hls] at hA'
    rw [show ∀ fr hp v, atEnd 3 ⟨.normal, fr, hp, v⟩ = ⟨.normal, fr, hp, v⟩ from fun _ _ _ => rfl]
    have s0 := hs 0 (by decide)
    have s3 := hs 3 (by decide)
    have s4 := hs 4 (by decide)
    have s5 := hs 5 (by decide)
    have s6 := hs 6 (by decide)
    simp only [ev_set] at s0 s3 s4 s5 s6
    have s3 : Fr.ev ⟨tm', 76, []⟩ (.tmp 3) = Fr.ev ⟨tm, 76, []⟩ (.tmp 3) := s3
    have s4 : Fr.ev ⟨tm', 76, []⟩ (.tmp 4) = Fr.ev ⟨tm, 76, []⟩ (.tmp 4) := s4
    have t6 : Fr.ev ⟨tm', 76, []⟩ (.tmp 6) = .lit (.int .i64 (Int.ofNat (k + 1))) := s6.trans e6
    refine runs_region ?_
    refine ops_q (v := .lit (.int .i64 (Int.ofNat (k + 1)))) (fs := []) rfl (by simp only [quiet, t6]) rfl rfl ?_
    refine ops_q (v := .lit (.int .i64 (Int.ofNat ((k + 1) + 1)))) (fs := []) rfl (by simp only [quiet, ev_set]; exact congrArg one (addQ (c := Int.ofNat ((k + 1) + 1)) rfl (by simp only [Int.ofNat_eq_natCast]; omega) (by simp only [Int.ofNat_eq_natCast]; omega))) rfl rfl ?_
    refine ops_q (v := .lit (.int .i64 (Int.ofNat ((k + 1) + 1)))) (fs := []) rfl rfl rfl rfl ?_
    refine ops_nil ?_
    refine (ih (k + 1) (by omega) _ h' ?_ ?_ ?_ hA' (hL.but hA hf (Nat.le_of_eq hn.symm))).mono ?_
    · simp only [ev_set]; exact s0.trans e0
    · simp only [ev_set]; exact s5.trans e5
    · simp only [ev_set]; rfl
    · rintro o ⟨tm2, h2, v2, rfl, q1, q2, q3, q4⟩
      have q10 := q1 0 (by decide)
      have q13 := q1 3 (by decide)
      have q14 := q1 4 (by decide)
      have q15 := q1 5 (by decide)
      simp only [ev_set] at q10 q13 q14 q15
      exact ⟨tm2, h2, v2, rfl, slots4 (q10.trans s0) (q13.trans s3) (q14.trans s4) (q15.trans s5), q2, fun c hc => (q3 c hc).trans (hf c hc), q4.trans hn⟩

end Go.Proofs.YtjilmneaeocimaaGreatDoor.snap
namespace Go.Proofs.YtjilmneaeocimaaGreatDoor.snap
open Go Go.Proofs.YtjilmneaeocimaaGreatDoor.Ev

/-- What is told of one id. -/
def tellR (rs : List (List (Int × Int))) (p : Int × Int) : Option (Int × Int) := if 0 < least rs p.1 p.2 then some (p.1, least rs p.1 p.2) else none
theorem least_le (rs : List (List (Int × Int))) : ∀ (a n : Int), least rs a n ≤ n ∧ ∀ s ∈ rs, least rs a n ≤ val s a := by
  induction rs with
  | nil => exact fun a n => ⟨Int.le_refl _, fun _ h => by cases h⟩
  | cons s rs ih =>
    intro a n
    rw [least_cons]
    obtain ⟨h1, h2⟩ := ih a (min n (val s a))
    refine ⟨by omega, fun x hx => ?_⟩
    rcases List.mem_cons.1 hx with rfl | hx
    · omega
    · exact h2 x hx
theorem least_nonneg (rs : List (List (Int × Int))) (hg : ∀ s ∈ rs, Good s) : ∀ (a n : Int), 0 ≤ n → 0 ≤ least rs a n := by
  induction rs with
  | nil => exact fun a n h => h
  | cons s rs ih =>
    intro a n h
    rw [least_cons]
    have := val_nonneg (hg s (List.mem_cons_self ..)) a
    exact ih (fun x hx => hg x (List.mem_cons_of_mem _ hx)) a _ (by omega)
theorem tell_asc {rs : List (List (Int × Int))} {r : List (Int × Int)} (h : Asc r) : Asc (r.filterMap (tellR rs)) := by
  unfold Asc
  rw [List.pairwise_filterMap]
  refine h.imp fun {x y} hxy u hu v hv => ?_
  unfold tellR at hu hv
  split at hu
  · split at hv
    · cases hu
      cases hv
      exact hxy
    · cases hv
  · cases hu
/-- The document's way comes to the same. -/
theorem tell_stable {r : List (Int × Int)} {rs : List (List (Int × Int))} (ha : Asc r) (hg : Good r) (hag : ∀ s ∈ rs, Asc s ∧ Good s) : r.filterMap (tellR rs) = stable (r :: rs) := by
  have hs : Asc (stable (r :: rs)) := fold_asc rs r ha fun s h => (hag s h).1
  have hsg : Good (stable (r :: rs)) := fold_good rs r hg fun s h => (hag s h).2
  refine (tell_asc ha).ext hs fun p => ?_
  have hv : ∀ a, val (stable (r :: rs)) a = least rs a (val r a) := fun a => fold_val rs r a ha hg hag
  rw [List.mem_filterMap]
  constructor
  · rintro ⟨x, hx, e⟩
    unfold tellR at e
    split at e
    · rename_i h0
      cases e
      have e2 := val_mem ha.nodup hx
      refine (val_eq_iff hs hsg (by omega)).1 ?_
      rw [hv, e2]
    · cases e
  · intro hp
    have e := val_mem hs.nodup hp
    have hpos := (hsg p hp).1.2.2
    rw [hv] at e
    have hle := (least_le rs p.1 (val r p.1)).1
    have hr : val r p.1 ≠ 0 := by omega
    refine ⟨_, mem_of_val hr, ?_⟩
    unfold tellR
    rw [if_pos (by show 0 < least rs p.1 (val r p.1); omega)]
    show some (p.1, least rs p.1 (val r p.1)) = some p
    rw [e]
theorem fm_snoc {rs : List (List (Int × Int))} {r : List (Int × Int)} {k : Nat} {x : Int × Int} (hx : r[k]? = some x) : (r.take (k + 1)).filterMap (tellR rs) = (r.take k).filterMap (tellR rs) ++ (if 0 < least rs x.1 x.2 then [(x.1, least rs x.1 x.2)] else []) := by
  rw [take_snoc hx, List.filterMap_append]
  congr 1
  rw [List.filterMap_cons, List.filterMap_nil]
  unfold tellR
  by_cases h : 0 < least rs x.1 x.2
  · rw [if_pos h, if_pos h]
  · rw [if_neg h, if_neg h]
set_option maxHeartbeats 8000000 in
set_option maxRecDepth 20000 in
theorem si_body (Γ : Glob) (lo lo1 i : Nat) (v o : SV) (vs : List SV) (r : List (Int × Int)) (rs : List (List (Int × Int))) (hag : ∀ r ∈ rs, Asc r ∧ r.length ≤ 1000000) (hrs : rs.length ≤ 1000000) (x : Int × Int) (s : List (Int × Int)) (hlen : s.length ≤ 1000000) (tm : T SV) (h : Hp) (e0 : Fr.ev ⟨tm, 76, []⟩ (.tmp 0) = v) (e3 : Fr.ev ⟨tm, 76, []⟩ (.tmp 3) = o) (e4 : Fr.ev ⟨tm, 76, []⟩ (.tmp 4) = .lit (.int .i64 (Int.ofNat i))) (hP : ∀ h', Kept lo h h' → Ls h' lo1 v vs (r :: rs)) (hx : r[i]? = some x) (hrow : IdR h lo o s) (hlo : lo ≤ h.next) :
    Runs Tryz.prog Γ (.code siB none ⟨tm, 76, []⟩ h) fun out => ∃ tm' h' v0 o', out = ⟨.normal, ⟨tm', 76, []⟩, h', v0⟩ ∧ (∀ t ∈ [0, 4], Fr.ev ⟨tm', 76, []⟩ (.tmp t) = Fr.ev ⟨tm, 76, []⟩ (.tmp t)) ∧ Fr.ev ⟨tm', 76, []⟩ (.tmp 3) = o' ∧ IdR h' lo o' (s ++ (if 0 < least rs x.1 x.2 then [(x.1, least rs x.1 x.2)] else [])) ∧ Kept lo h h' := by
  have hL := hP h (Kept.refl _ _)
  have hil := (List.getElem?_eq_some_iff.1 hx).1
  obtain ⟨bl, u, lo', hv, hbl, hu, hui⟩ := hL.at (k := 0) rfl
  obtain ⟨b2, hu2, hb2⟩ := hui.at hx
  obtain ⟨hcA, _, _⟩ := flat_cut r i x hx
  refine runs_seq ?_
  refine runs_region ?_
  refine ops_q (v := v) (fs := []) rfl (by simp only [quiet, e0] <;> rfl) rfl rfl ?_
  refine ops_q (v := .ptr bl 0) (fs := []) rfl (by simp only [quiet, ev_set, hv]; exact congrArg one (listIdx (k := 0) (by rw [List.length_cons]; omega))) rfl rfl ?_
  refine ops_q (v := u) (fs := [.cells bl 0 [u]]) rfl (by simp only [quiet, ev_set]; exact load_row1 aggList hbl.get hu) rfl rfl ?_
  refine ops_q (v := .lit (.int .i64 (Int.ofNat i))) (fs := []) rfl (by simp only [quiet, ev_set, e4] <;> rfl) rfl rfl ?_
  refine ops_q (v := .ptr b2 (i * 2)) (fs := []) rfl (by simp only [quiet, ev_set, hu2]; exact congrArg one (idIdx hil)) rfl rfl ?_
  refine ops_q (v := .agg [.lit (.int .i64 x.1), .lit (.int .i64 x.2)]) (fs := [.cells b2 (i * 2) (idC x)]) rfl (by simp only [quiet, ev_set]; exact load_rowA rfl rfl hb2.get hcA) rfl rfl ?_
  refine ops_newA (cs := [.lit (.int .i64 x.1), .lit (.int .i64 x.2)]) rfl rfl rfl rfl rfl rfl rfl rfl (by simp only [ev_set] <;> rfl) rfl rfl rfl rfl (fun H1 g1 k1 n1 => ?_)
  have hL_1 := hL.kept k1
  have hrow_1 := hrow.kept k1
  refine ops_nil ?_
  refine runs_seq (runs_seq ?_)
  refine runs_region ?_
  refine ops_q (v := .lit (.int .i64 (Int.ofNat (0 + 1)))) (fs := []) rfl rfl rfl rfl ?_
  refine ops_nil ?_
  refine runs_block ((sk_loop Γ h.next lo1 x.1 x.2 v vs r rs hag hrs rs.length 0 (Nat.zero_add _) _ H1 ?_ ?_ ?_ g1 hL_1).mono ?_)
  · simp only [ev_set]; exact e0
  · simp only [ev_set] <;> rfl
  · simp only [ev_set] <;> rfl
  rintro out ⟨tm', h2, v0, rfl, hs, hX, hf, hn⟩
  rw [show ∀ fr hp v, atEnd 2 ⟨.exit 2, fr, hp, v⟩ = ⟨.normal, fr, hp, v⟩ from fun _ _ _ => rfl]
  have z0 := hs 0 (by decide)
  have z3 := hs 3 (by decide)
  have z4 := hs 4 (by decide)
  have z5 := hs 5 (by decide)
  simp only [ev_set] at z0 z3 z4 z5
  have z0 : Fr.ev ⟨tm', 76, []⟩ (.tmp 0) = Fr.ev ⟨tm, 76, []⟩ (.tmp 0) := z0
  have z3 : Fr.ev ⟨tm', 76, []⟩ (.tmp 3) = o := z3.trans e3
  have z4 : Fr.ev ⟨tm', 76, []⟩ (.tmp 4) = Fr.ev ⟨tm, 76, []⟩ (.tmp 4) := z4
  have z5 : Fr.ev ⟨tm', 76, []⟩ (.tmp 5) = .ptr h.next 0 := z5
  have hrow2 : IdR h2 lo o s := hrow_1.but g1 hf (Nat.le_of_eq hn.symm)
  have c1 := k1.next
  have hlo2 : lo ≤ h2.next := by omega
  have hold2 : ∀ c, c < h.next → h2.objs.get c = h.objs.get c := fun c hc => (hf c (by omega)).trans (k1.old c hc)
  by_cases h0 : 0 < least rs x.1 x.2
  · rw [if_pos h0]
    refine runs_seq ?_
    refine runs_region ?_
    refine ops_q (v := .ptr h.next 1) (fs := []) rfl (by simp only [quiet, z5] <;> rfl) rfl rfl ?_
    refine ops_q (v := .lit (.int .i64 (least rs x.1 x.2))) (fs := [.cells h.next 1 [.lit (.int .i64 (least rs x.1 x.2))]]) rfl (by simp only [quiet, ev_set]; exact load_cell rfl hX.get rfl) rfl rfl ?_
    refine ops_q (v := .lit (.bool true)) (fs := []) rfl (by simp only [quiet, ev_set]; exact congrArg one (gtrT h0)) rfl rfl ?_
    refine ops_nil ?_
    refine runs_cond true rfl ?_
    refine runs_region ?_
    refine ops_q (v := o) (fs := []) rfl (by simp only [quiet, ev_set, z3] <;> rfl) rfl rfl ?_
    refine ops_q (v := .agg [.lit (.int .i64 x.1), .lit (.int .i64 (least rs x.1 x.2))]) (fs := [.cells h.next 0 [.lit (.int .i64 x.1), .lit (.int .i64 (least rs x.1 x.2))]]) rfl (by simp only [quiet, ev_set, z5]; exact load_cut rfl rfl hX.get rfl) rfl rfl ?_
    refine ops_app (p := (x.1, least rs x.1 x.2)) (r := s) (lo := lo) (v := o) rfl rfl (by simp only [ev_set] <;> rfl) rfl rfl rfl rfl (by simp only [ev_set] <;> rfl) (by simp only [ev_set] <;> rfl) rfl rfl hrow2 hlen hlo2 (fun w21 H21 c21 n21 k21 => ?_)
    have n21 : H21.next = h2.next + 2 := n21
    have kk21 : Kept lo h2 H21 := ⟨by omega, k21⟩
    refine ops_q (v := w21) (fs := []) rfl rfl rfl rfl ?_
    refine ops_nil ?_
    exact ⟨_, _, _, w21, rfl, slots2 (by simp only [ev_set]; exact z0) (by simp only [ev_set]; exact z4), by simp only [ev_set] <;> rfl, c21, ⟨by have := kk21.next; have := k1.next; first | omega | (dsimp only; omega), fun c hc => (kk21.old c hc).trans (hold2 c (by omega))⟩⟩
  · rw [if_neg h0, List.append_nil]
    refine runs_seq ?_
    refine runs_region ?_
    refine ops_q (v := .ptr h.next 1) (fs := []) rfl (by simp only [quiet, z5] <;> rfl) rfl rfl ?_
    refine ops_q (v := .lit (.int .i64 (least rs x.1 x.2))) (fs := [.cells h.next 1 [.lit (.int .i64 (least rs x.1 x.2))]]) rfl (by simp only [quiet, ev_set]; exact load_cell rfl hX.get rfl) rfl rfl ?_
    refine ops_q (v := .lit (.bool false)) (fs := []) rfl (by simp only [quiet, ev_set]; exact congrArg one (gtrF h0)) rfl rfl ?_
    refine ops_nil ?_
    refine runs_cond false rfl ?_
    refine runs_skip ?_
    exact ⟨_, _, _, o, rfl, slots2 (by simp only [ev_set]; exact z0) (by simp only [ev_set]; exact z4), by simp only [ev_set]; exact z3, hrow2, ⟨by first | omega | (dsimp only; omega), fun c hc => hold2 c (by omega)⟩⟩

set_option maxHeartbeats 8000000 in
set_option maxRecDepth 20000 in
theorem si_loop (Γ : Glob) (lo lo1 : Nat) (v : SV) (vs : List SV) (r : List (Int × Int)) (rs : List (List (Int × Int))) (hr0 : r.length ≤ 1000000) (hag : ∀ r ∈ rs, Asc r ∧ r.length ≤ 1000000) (hrs : rs.length ≤ 1000000) : ∀ (rem i : Nat), i + rem = r.length → ∀ (tm : T SV) (h : Hp) (o : SV), Fr.ev ⟨tm, 76, []⟩ (.tmp 0) = v → Fr.ev ⟨tm, 76, []⟩ (.tmp 3) = o → Fr.ev ⟨tm, 76, []⟩ (.tmp 4) = .lit (.int .i64 (Int.ofNat i)) → (∀ h', Kept lo h h' → Ls h' lo1 v vs (r :: rs)) → IdR h lo o ((r.take i).filterMap (tellR rs)) → lo ≤ h.next →
    Runs Tryz.prog Γ (.code siLoop none ⟨tm, 76, []⟩ h) fun out => ∃ tm' h' v0 o', out = ⟨.exit 0, ⟨tm', 76, []⟩, h', v0⟩ ∧ Fr.ev ⟨tm', 76, []⟩ (.tmp 3) = o' ∧ IdR h' lo o' (r.filterMap (tellR rs)) ∧ Kept lo h h' := by
  intro rem
  induction rem with
  | zero =>
    intro i hi tm h o e0 e3 e4 hP hrow hlo
    have hx0 : i = r.length := by omega
    rw [show r.take i = r by rw [hx0, List.take_length]] at hrow
    have hL := hP h (Kept.refl _ _)
    obtain ⟨bl, u, lo', hv, hbl, hu, hui⟩ := hL.at (k := 0) rfl
    refine runs_loop ?_
    refine runs_seq (runs_seq ?_)
    refine runs_region ?_
    refine ops_q (v := .lit (.int .i64 (Int.ofNat i))) (fs := []) rfl (by simp only [quiet, e4] <;> rfl) rfl rfl ?_
    refine ops_q (v := v) (fs := []) rfl (by simp only [quiet, ev_set, e0] <;> rfl) rfl rfl ?_
    refine ops_q (v := .ptr bl 0) (fs := []) rfl (by simp only [quiet, ev_set, hv]; exact congrArg one (listIdx (k := 0) (by rw [List.length_cons]; omega))) rfl rfl ?_
    refine ops_q (v := u) (fs := [.cells bl 0 [u]]) rfl (by simp only [quiet, ev_set]; exact load_row1 aggList hbl.get hu) rfl rfl ?_
    refine ops_q (v := .lit (.int .i64 (Int.ofNat r.length))) (fs := []) rfl (by simp only [quiet]; exact hui.len _) rfl rfl ?_
    refine ops_q (v := .lit (.bool false)) (fs := []) rfl (by simp only [quiet, ev_set]; exact congrArg one (lssF (by simp only [Int.ofNat_eq_natCast]; omega))) rfl rfl ?_
    refine ops_nil ?_
    refine runs_cond false rfl (runs_exit ?_)
    exact ⟨_, _, _, o, rfl, by simp only [ev_set]; exact e3, hrow, Kept.refl _ _⟩
  | succ rem ih =>
    intro i hi tm h o e0 e3 e4 hP hrow hlo
    have hil : i < r.length := by omega
    have hd : r[i]? = some r[i] := List.getElem?_eq_getElem hil
    generalize r[i] = x at hd
    have hL := hP h (Kept.refl _ _)
    obtain ⟨bl, u, lo', hv, hbl, hu, hui⟩ := hL.at (k := 0) rfl
    have hfl : ((r.take i).filterMap (tellR rs)).length ≤ 1000000 := Nat.le_trans (List.length_filterMap_le _ _) (by rw [List.length_take]; omega)
    refine runs_loop ?_
    refine runs_seq (runs_seq ?_)
    refine runs_region ?_
    refine ops_q (v := .lit (.int .i64 (Int.ofNat i))) (fs := []) rfl (by simp only [quiet, e4] <;> rfl) rfl rfl ?_
    refine ops_q (v := v) (fs := []) rfl (by simp only [quiet, ev_set, e0] <;> rfl) rfl rfl ?_
    refine ops_q (v := .ptr bl 0) (fs := []) rfl (by simp only [quiet, ev_set, hv]; exact congrArg one (listIdx (k := 0) (by rw [List.length_cons]; omega))) rfl rfl ?_
    refine ops_q (v := u) (fs := [.cells bl 0 [u]]) rfl (by simp only [quiet, ev_set]; exact load_row1 aggList hbl.get hu) rfl rfl ?_
    refine ops_q (v := .lit (.int .i64 (Int.ofNat r.length))) (fs := []) rfl (by simp only [quiet]; exact hui.len _) rfl rfl ?_
    refine ops_q (v := .lit (.bool true)) (fs := []) rfl (by simp only [quiet, ev_set]; exact congrArg one (lssT (Int.ofNat_lt.2 hil))) rfl rfl ?_
    refine ops_nil ?_
    refine runs_cond true rfl (runs_skip ?_)
    refine runs_seq (runs_block ((si_body Γ lo lo1 i v o vs r rs hag hrs x _ hfl _ h (by simp only [ev_set]; exact e0) (by simp only [ev_set]; exact e3) (by simp only [ev_set]; exact e4) hP hd hrow hlo).mono ?_))
    rintro out ⟨tm', h', v0, o', rfl, hs, p1, p2, p3⟩
    rw [← fm_snoc hd] at p2
    rw [show ∀ fr hp v, atEnd 1 ⟨.normal, fr, hp, v⟩ = ⟨.normal, fr, hp, v⟩ from fun _ _ _ => rfl]
    have s0 := hs 0 (by decide)
    have s4 := hs 4 (by decide)
    simp only [ev_set] at s0 s4
    have t4 : Fr.ev ⟨tm', 76, []⟩ (.tmp 4) = .lit (.int .i64 (Int.ofNat i)) := s4.trans e4
    refine runs_region ?_
    refine ops_q (v := .lit (.int .i64 (Int.ofNat i))) (fs := []) rfl (by simp only [quiet, t4]) rfl rfl ?_
    refine ops_q (v := .lit (.int .i64 (Int.ofNat (i + 1)))) (fs := []) rfl (by simp only [quiet, ev_set]; exact congrArg one (addQ (c := Int.ofNat (i + 1)) rfl (by simp only [Int.ofNat_eq_natCast]; omega) (by simp only [Int.ofNat_eq_natCast]; omega))) rfl rfl ?_
    refine ops_q (v := .lit (.int .i64 (Int.ofNat (i + 1)))) (fs := []) rfl rfl rfl rfl ?_
    refine ops_nil ?_
    refine (ih (i + 1) (by omega) _ h' o' ?_ ?_ ?_ (fun h2 k2 => hP h2 (p3.trans k2)) p2 (Nat.le_trans hlo p3.next)).mono ?_
    · simp only [ev_set]; exact s0.trans e0
    · simp only [ev_set]; exact p1
    · simp only [ev_set]; rfl
    · rintro out ⟨tm2, h2, v2, o2, rfl, q1, q2, q3⟩
      exact ⟨tm2, h2, v2, o2, rfl, q1, q2, p3.trans q3⟩

set_option maxHeartbeats 8000000 in
set_option maxRecDepth 20000 in
/-- **The document's Stable.** -/
theorem rstable_runs (Γ : Glob) (h : Hp) (lo1 : Nat) (v : SV) (vs : List SV) (rs : List (List (Int × Int))) (hrs : rs.length ≤ 1000000) (hag : ∀ r ∈ rs, Asc r ∧ Good r ∧ r.length ≤ 1000000) (hL : Ls h lo1 v vs rs) :
    Runs Tryz.prog Γ (.call 9 [v] h) fun o => ∃ u, o.v = u ∧ IdR o.hp h.next u (stable rs) ∧ Kept h.next h o.hp := by
  cases rs with
  | nil =>
    refine runs_call Tryz.func9 rfl ?_
    refine runs_seq ?_
    refine runs_region ?_
    refine ops_q (v := .lit (.slice none 0 0)) (fs := []) rfl rfl rfl rfl ?_
    refine ops_nil ?_
    refine runs_seq ?_
    refine runs_region ?_
    refine ops_bsl (k := 0) (cs := []) (e := 44) rfl rfl rfl rfl rfl (fun H1 g1 k1 n1 => ?_)
    have hL_1 := hL.kept k1
    refine ops_q (v := .slice h.next 0 0 0) (fs := []) rfl rfl rfl rfl ?_
    refine ops_nil ?_
    refine runs_seq ?_
    refine runs_seq ?_
    refine runs_region ?_
    refine ops_q (v := v) (fs := []) rfl rfl rfl rfl ?_
    refine ops_q (v := .lit (.int .i64 (Int.ofNat 0))) (fs := []) rfl (hL_1.len _) rfl rfl ?_
    refine ops_q (v := .lit (.bool true)) (fs := []) rfl (by simp only [quiet, ev_set]; exact congrArg one (eqlT rfl)) rfl rfl ?_
    refine ops_nil ?_
    refine runs_cond true rfl ?_
    refine runs_seq ?_
    refine runs_region ?_
    refine ops_q (v := .slice h.next 0 0 0) (fs := []) rfl rfl rfl rfl ?_
    refine ops_q (v := .slice h.next 0 0 0) (fs := []) rfl rfl rfl rfl ?_
    refine ops_nil ?_
    refine runs_ret ?_
    exact ⟨_, leave_marks (t := 2) (ms := []) rfl rfl rfl, _, rfl, .inl ⟨rfl, .inr ⟨_, rfl, g1⟩⟩, k1⟩
  | cons r rs =>
  have hr := hag r (List.mem_cons_self ..)
  have hts := tell_stable (rs := rs) hr.1 hr.2.1 fun s hs => ⟨(hag s (List.mem_cons_of_mem _ hs)).1, (hag s (List.mem_cons_of_mem _ hs)).2.1⟩
  refine runs_call Tryz.func9 rfl ?_
  refine runs_seq ?_
  refine runs_region ?_
  refine ops_q (v := .lit (.slice none 0 0)) (fs := []) rfl rfl rfl rfl ?_
  refine ops_nil ?_
  refine runs_seq ?_
  refine runs_region ?_
  refine ops_bsl (k := 0) (cs := []) (e := 44) rfl rfl rfl rfl rfl (fun H1 g1 k1 n1 => ?_)
  have hL_1 := hL.kept k1
  refine ops_q (v := .slice h.next 0 0 0) (fs := []) rfl rfl rfl rfl ?_
  refine ops_nil ?_
  refine runs_seq ?_
  refine runs_seq ?_
  refine runs_region ?_
  refine ops_q (v := v) (fs := []) rfl rfl rfl rfl ?_
  refine ops_q (v := .lit (.int .i64 (Int.ofNat (r :: rs).length))) (fs := []) rfl (hL_1.len _) rfl rfl ?_
  refine ops_q (v := .lit (.bool false)) (fs := []) rfl (by simp only [quiet, ev_set]; exact congrArg one (eqlF (by simp only [List.length_cons, Int.ofNat_eq_natCast]; omega))) rfl rfl ?_
  refine ops_nil ?_
  refine runs_cond false rfl ?_
  refine runs_skip ?_
  refine runs_seq (runs_seq ?_)
  refine runs_region ?_
  refine ops_q (v := .lit (.int .i64 (Int.ofNat 0))) (fs := []) rfl rfl rfl rfl ?_
  refine ops_nil ?_
  have c1 := k1.next
  refine runs_block ((si_loop Γ h.next lo1 v vs r rs hr.2.2 (fun s hs => ⟨(hag s (List.mem_cons_of_mem _ hs)).1, (hag s (List.mem_cons_of_mem _ hs)).2.2⟩) (by rw [List.length_cons] at hrs; omega) r.length 0 (Nat.zero_add _) _ H1 (.slice h.next 0 0 0) rfl rfl rfl (fun h' kk => hL.kept (k1.trans kk)) (.inl ⟨rfl, .inr ⟨_, rfl, g1⟩⟩) c1).mono ?_)
  rintro out ⟨tm', h', v0, o', rfl, q1, q2, q3⟩
  rw [hts] at q2
  rw [show ∀ fr hp v, atEnd 0 ⟨.exit 0, fr, hp, v⟩ = ⟨.normal, fr, hp, v⟩ from fun _ _ _ => rfl]
  refine runs_seq ?_
  refine runs_region ?_
  refine ops_q (v := o') (fs := []) rfl (by simp only [quiet, q1] <;> rfl) rfl rfl ?_
  refine ops_q (v := o') (fs := []) rfl rfl rfl rfl ?_
  refine ops_nil ?_
  refine runs_ret ?_
  exact ⟨_, leave_marks (t := 2) (ms := []) rfl rfl (by simp only [ev_set] <;> rfl), o', rfl, q2, k1.trans q3⟩

end Go.Proofs.YtjilmneaeocimaaGreatDoor.snap
