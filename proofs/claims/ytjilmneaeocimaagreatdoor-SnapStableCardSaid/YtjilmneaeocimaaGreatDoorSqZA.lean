/-
  THE DOCUMENT's Stable: its inner loop; by the author's gen_snap.py, in the calculus of runs.
-/
import Derived.Test.YtjilmneaeocimaaGreatDoorSpGV
namespace Go.Proofs.YtjilmneaeocimaaGreatDoor.snap
open Go Go.Proofs.YtjilmneaeocimaaGreatDoor.Ev

noncomputable def siLoop : Code := (inBlk (seqR (seqL (seqR (seqR (seqR (bodyOf Tryz.f9)))))))
noncomputable def siB : Code := (inBlk (seqL (seqR (inLoop siLoop))))
noncomputable def skLoop : Code := (inBlk (seqR (seqL (seqR siB))))
noncomputable def skB : Code := (inBlk (seqL (seqR (inLoop skLoop))))
noncomputable def sjLoop : Code := (inBlk (seqR (seqL (seqR skB))))
noncomputable def sjB : Code := (inBlk (seqL (seqR (inLoop sjLoop))))
noncomputable def sjOps : Array Oper := opsOf (seqL sjB)
/-- A row whose elements have one cell each, or nil. -/
def CR (e : TypeId) (h : Hp) (lo : Nat) (v : SV) (vs : List SV) : Prop := (v = .lit (.slice none 0 0) ∧ vs = []) ∨ ∃ bl, v = .row bl 0 vs.length vs.length bl ∧ lo ≤ bl ∧ At h bl (.row vs e vs.length bl 1)
theorem CR.kept {e : TypeId} {h H : Hp} {lo : Nat} {v : SV} {vs : List SV} (s : CR e h lo v vs) (k : Kept h.next h H) : CR e H lo v vs := by
  rcases s with s | ⟨bl, s1, s2, s3⟩
  · exact .inl s
  · exact .inr ⟨bl, s1, s2, s3.kept k⟩
theorem load_row1 {Γ : Glob} {h : Hp} {t : TypeId} {b k c cv z : Nat} {vs : List SV} {v : SV} {e : TypeId} (ht : tyAgg Tryz.prog t = some false) (hb : h.objs.get b = some (.row vs e c cv z)) (hv : vs[k]? = some v) : loadQ Tryz.prog Γ h t (.ptr b k) = some (v, [.cells b k [v]]) := by
  have hc : cut vs k 1 = some [v] := by
    have : (vs.drop k).take 1 = [v] := by rw [List.take_one, List.head?_drop, hv]; rfl
    simp only [cut, this]
    rfl
  simp only [loadQ, ht, readCells, knownCells, hb, Option.bind_some, hc]
set_option maxRecDepth 10000 in
theorem tyLists : tyU Tryz.prog 22 = some (.slice 25) := rfl
set_option maxRecDepth 10000 in
theorem szList : tySize Tryz.prog 25 = some 1 := rfl
set_option maxRecDepth 10000 in
theorem aggList : tyAgg Tryz.prog 25 = some false := rfl
theorem listIdx {bl n k : Nat} (h : k < n) : indexAddrQ Tryz.prog 22 (.row bl 0 n n bl) (.lit (.int .i64 (Int.ofNat k))) = some (.ptr bl k) := by
  simp only [indexAddrQ, tyLists, szList, idxQ]
  rw [show Nat.blt k n = true from Nat.ble_eq_true_of_le h, cond_true]
  simp only [Nat.zero_add, Nat.mul_one]
/-- Lists, one behind the other. -/
def Ls (h : Hp) (lo : Nat) (v : SV) (vs : List SV) (rs : List (List (Int × Int))) : Prop := CR 25 h lo v vs ∧ vs.length = rs.length ∧ ∀ (k : Nat) r, rs[k]? = some r → ∃ u lo', vs[k]? = some u ∧ IdR h lo' u r
theorem Ls.kept {h H : Hp} {lo : Nat} {v : SV} {vs : List SV} {rs : List (List (Int × Int))} (s : Ls h lo v vs rs) (k : Kept h.next h H) : Ls H lo v vs rs := ⟨s.1.kept k, s.2.1, fun j r hr => by
  obtain ⟨u, lo', h1, h2⟩ := s.2.2 j r hr
  exact ⟨u, lo', h1, h2.kept k⟩⟩
theorem Ls.at {h : Hp} {lo : Nat} {v : SV} {vs : List SV} {rs : List (List (Int × Int))} {k : Nat} {r : List (Int × Int)} (s : Ls h lo v vs rs) (hk : rs[k]? = some r) : ∃ bl u lo', v = .row bl 0 rs.length rs.length bl ∧ At h bl (.row vs 25 vs.length bl 1) ∧ vs[k]? = some u ∧ IdR h lo' u r := by
  obtain ⟨u, lo', h1, h2⟩ := s.2.2 k r hk
  have hkl := (List.getElem?_eq_some_iff.1 hk).1
  rcases s.1 with ⟨_, e⟩ | ⟨bl, s1, _, s3⟩
  · have := s.2.1
    rw [e] at this
    simp at this
    omega
  · exact ⟨bl, u, lo', by rw [← s.2.1]; exact s1, s3, h1, h2⟩
set_option maxRecDepth 10000 in
theorem nilLists (h : Hp) (p : Option Addr) (c : Nat) : lenQ Tryz.prog h 22 (.lit (.slice p 0 c)) = some (.lit (.int .i64 0), []) := rfl
theorem Ls.len {h : Hp} {lo : Nat} {v : SV} {vs : List SV} {rs : List (List (Int × Int))} (s : Ls h lo v vs rs) (h' : Hp) : lenQ Tryz.prog h' 22 v = some (.lit (.int .i64 (Int.ofNat rs.length)), []) := by
  rw [← s.2.1]
  rcases s.1 with ⟨rfl, rfl⟩ | ⟨bl, rfl, _⟩
  · exact nilLists h' none 0
  · simp only [lenQ, tyLists]; rfl
theorem val_snoc {r : List (Int × Int)} {p : Int × Int} {a : Int} : val (r ++ [p]) a = if a ∈ keys r then val r a else if p.1 = a then p.2 else 0 := by
  induction r with
  | nil => rw [List.nil_append, val_cons]; simp [keys, val_nil]
  | cons x r ih =>
    rw [List.cons_append, val_cons, val_cons, ih]
    by_cases e : x.1 = a
    · rw [if_pos e, if_pos e, if_pos (by rw [← e]; exact List.mem_cons_self ..)]
    · rw [if_neg e, if_neg e]
      have : a ∈ keys (x :: r) ↔ a ∈ keys r := by
        show a ∈ x.1 :: keys r ↔ _
        rw [List.mem_cons]
        exact ⟨fun h => h.resolve_left fun h => e h.symm, .inr⟩
      simp only [this]
theorem val_take_yes {r : List (Int × Int)} {k : Nat} {x : Int × Int} (ha : Asc r) (hx : r[k]? = some x) : val (r.take (k + 1)) x.1 = x.2 := by
  rw [take_snoc hx, val_snoc, if_neg (take_new ha hx), if_pos rfl]
theorem val_take_no {r : List (Int × Int)} {k : Nat} {x : Int × Int} {a : Int} (hx : r[k]? = some x) (hne : x.1 ≠ a) : val (r.take (k + 1)) a = val (r.take k) a := by
  rw [take_snoc hx, val_snoc]
  split
  · rfl
  · rename_i h
    first | rw [val_no h] | rw [if_neg hne, val_no h]
set_option maxHeartbeats 8000000 in
set_option maxRecDepth 20000 in
theorem sj_body (Γ : Glob) (A lo k j : Nat) (a m n : Int) (v : SV) (vs : List SV) (rs : List (List (Int × Int))) (r : List (Int × Int)) (ha : Asc r) (x : Int × Int) (tm : T SV) (h : Hp) (e0 : Fr.ev ⟨tm, 76, []⟩ (.tmp 0) = v) (e5 : Fr.ev ⟨tm, 76, []⟩ (.tmp 5) = .ptr A 0) (e6 : Fr.ev ⟨tm, 76, []⟩ (.tmp 6) = .lit (.int .i64 (Int.ofNat k))) (e7 : Fr.ev ⟨tm, 76, []⟩ (.tmp 7) = .lit (.int .i64 n)) (e8 : Fr.ev ⟨tm, 76, []⟩ (.tmp 8) = .lit (.int .i64 (Int.ofNat j))) (hA : At h A (.cells [.lit (.int .i64 a), .lit (.int .i64 m)] 44)) (hL : Ls h lo v vs rs) (hk : rs[k]? = some r) (hx : r[j]? = some x) (hn : n = val (r.take j) a) :
    Runs Tryz.prog Γ (.code sjB none ⟨tm, 76, []⟩ h) fun o => ∃ tm' v0, o = ⟨.normal, ⟨tm', 76, []⟩, h, v0⟩ ∧ (∀ t ∈ [0, 3, 4, 5, 6, 8], Fr.ev ⟨tm', 76, []⟩ (.tmp t) = Fr.ev ⟨tm, 76, []⟩ (.tmp t)) ∧ Fr.ev ⟨tm', 76, []⟩ (.tmp 7) = .lit (.int .i64 (val (r.take (j + 1)) a)) := by
  have hkl := (List.getElem?_eq_some_iff.1 hk).1
  have hjl := (List.getElem?_eq_some_iff.1 hx).1
  obtain ⟨bl, u, lo', hv, hbl, hu, hui⟩ := hL.at hk
  obtain ⟨b2, hu2, hb2⟩ := hui.at hx
  obtain ⟨_, hc0, hc1⟩ := flat_cut r j x hx
  by_cases hxa : x.1 = a
  · have hval : val (r.take (j + 1)) a = x.2 := by rw [← hxa]; exact val_take_yes ha hx
    rw [hval]
    refine runs_seq ?_
    refine runs_drawn (ops := sjOps) rfl ?_
    refine drawn_end (m' := 2047) (held' := [⟨descOf 9 sjOps.toList 0 0, [.cells A 0 [.lit (.int .i64 a)]], none⟩, ⟨descOf 7 sjOps.toList 0 0, [.cells b2 (j * 2 + 0) [.lit (.int .i64 x.1)]], none⟩, ⟨descOf 3 sjOps.toList 0 0, [.cells bl k [u]], none⟩]) (hp' := h) (by
      refine take_q (v := v) rfl rfl rfl (by simp only [quiet, e0] <;> rfl) rfl rfl ?_
      refine take_q (v := .lit (.int .i64 (Int.ofNat k))) rfl rfl rfl (by simp only [quiet, ev_set, e6] <;> rfl) rfl rfl ?_
      refine take_q (v := .ptr bl k) rfl rfl rfl (by simp only [quiet, ev_set, hv]; exact congrArg one (listIdx hkl)) rfl rfl ?_
      refine take_f (v := u) (fact := .cells bl k [u]) rfl rfl rfl (by simp only [quiet, ev_set]; exact load_row1 aggList hbl.get hu) rfl rfl ?_
      refine take_q (v := .lit (.int .i64 (Int.ofNat j))) rfl rfl rfl (by simp only [quiet, ev_set, e8] <;> rfl) rfl rfl ?_
      refine take_q (v := .ptr b2 (j * 2)) rfl rfl rfl (by simp only [quiet, ev_set, hu2]; exact congrArg one (idIdx hjl)) rfl rfl ?_
      refine take_q (v := .ptr b2 (j * 2 + 0)) rfl rfl rfl rfl rfl rfl ?_
      refine take_f (v := .lit (.int .i64 x.1)) (fact := .cells b2 (j * 2 + 0) [.lit (.int .i64 x.1)]) rfl rfl rfl (by simp only [quiet, ev_set]; exact load_rowc hb2.get hc0) rfl rfl ?_
      refine take_q (v := .ptr A 0) rfl rfl rfl (by simp only [quiet, ev_set, e5] <;> rfl) rfl rfl ?_
      refine take_f (v := .lit (.int .i64 a)) (fact := .cells A 0 [.lit (.int .i64 a)]) rfl rfl rfl (by simp only [quiet, ev_set]; exact load_cell rfl hA.get rfl) rfl rfl ?_
      refine take_q (v := .lit (.bool true)) rfl rfl rfl (by simp only [quiet, ev_set]; exact congrArg one (eqlT hxa)) rfl rfl ?_
      rfl) (by rfl) (by rfl) ?_
    refine runs_cond true rfl ?_
    refine runs_region ?_
    refine ops_q (v := v) (fs := []) rfl (by simp only [quiet, ev_set, e0] <;> rfl) rfl rfl ?_
    refine ops_q (v := .lit (.int .i64 (Int.ofNat k))) (fs := []) rfl (by simp only [quiet, ev_set, e6] <;> rfl) rfl rfl ?_
    refine ops_q (v := .ptr bl k) (fs := []) rfl (by simp only [quiet, ev_set, hv]; exact congrArg one (listIdx hkl)) rfl rfl ?_
    refine ops_q (v := u) (fs := [.cells bl k [u]]) rfl (by simp only [quiet, ev_set]; exact load_row1 aggList hbl.get hu) rfl rfl ?_
    refine ops_q (v := .lit (.int .i64 (Int.ofNat j))) (fs := []) rfl (by simp only [quiet, ev_set, e8] <;> rfl) rfl rfl ?_
    refine ops_q (v := .ptr b2 (j * 2)) (fs := []) rfl (by simp only [quiet, ev_set, hu2]; exact congrArg one (idIdx hjl)) rfl rfl ?_
    refine ops_q (v := .ptr b2 (j * 2 + 1)) (fs := []) rfl rfl rfl rfl ?_
    refine ops_q (v := .lit (.int .i64 x.2)) (fs := [.cells b2 (j * 2 + 1) [.lit (.int .i64 x.2)]]) rfl (by simp only [quiet, ev_set]; exact load_rowc hb2.get hc1) rfl rfl ?_
    refine ops_q (v := .lit (.int .i64 x.2)) (fs := []) rfl rfl rfl rfl ?_
    refine ops_nil ?_
    exact ⟨_, _, rfl, slots6 (by simp only [ev_set] <;> rfl) (by simp only [ev_set] <;> rfl) (by simp only [ev_set] <;> rfl) (by simp only [ev_set] <;> rfl) (by simp only [ev_set] <;> rfl) (by simp only [ev_set] <;> rfl), by simp only [ev_set] <;> rfl⟩
  · have hval : val (r.take (j + 1)) a = n := (val_take_no hx hxa).trans hn.symm
    rw [hval]
    refine runs_seq ?_
    refine runs_drawn (ops := sjOps) rfl ?_
    refine drawn_end (m' := 2047) (held' := [⟨descOf 9 sjOps.toList 0 0, [.cells A 0 [.lit (.int .i64 a)]], none⟩, ⟨descOf 7 sjOps.toList 0 0, [.cells b2 (j * 2 + 0) [.lit (.int .i64 x.1)]], none⟩, ⟨descOf 3 sjOps.toList 0 0, [.cells bl k [u]], none⟩]) (hp' := h) (by
      refine take_q (v := v) rfl rfl rfl (by simp only [quiet, e0] <;> rfl) rfl rfl ?_
      refine take_q (v := .lit (.int .i64 (Int.ofNat k))) rfl rfl rfl (by simp only [quiet, ev_set, e6] <;> rfl) rfl rfl ?_
      refine take_q (v := .ptr bl k) rfl rfl rfl (by simp only [quiet, ev_set, hv]; exact congrArg one (listIdx hkl)) rfl rfl ?_
      refine take_f (v := u) (fact := .cells bl k [u]) rfl rfl rfl (by simp only [quiet, ev_set]; exact load_row1 aggList hbl.get hu) rfl rfl ?_
      refine take_q (v := .lit (.int .i64 (Int.ofNat j))) rfl rfl rfl (by simp only [quiet, ev_set, e8] <;> rfl) rfl rfl ?_
      refine take_q (v := .ptr b2 (j * 2)) rfl rfl rfl (by simp only [quiet, ev_set, hu2]; exact congrArg one (idIdx hjl)) rfl rfl ?_
      refine take_q (v := .ptr b2 (j * 2 + 0)) rfl rfl rfl rfl rfl rfl ?_
      refine take_f (v := .lit (.int .i64 x.1)) (fact := .cells b2 (j * 2 + 0) [.lit (.int .i64 x.1)]) rfl rfl rfl (by simp only [quiet, ev_set]; exact load_rowc hb2.get hc0) rfl rfl ?_
      refine take_q (v := .ptr A 0) rfl rfl rfl (by simp only [quiet, ev_set, e5] <;> rfl) rfl rfl ?_
      refine take_f (v := .lit (.int .i64 a)) (fact := .cells A 0 [.lit (.int .i64 a)]) rfl rfl rfl (by simp only [quiet, ev_set]; exact load_cell rfl hA.get rfl) rfl rfl ?_
      refine take_q (v := .lit (.bool false)) rfl rfl rfl (by simp only [quiet, ev_set]; exact congrArg one (eqlF hxa)) rfl rfl ?_
      rfl) (by rfl) (by rfl) ?_
    refine runs_cond false rfl ?_
    refine runs_skip ?_
    exact ⟨_, _, rfl, slots6 (by simp only [ev_set] <;> rfl) (by simp only [ev_set] <;> rfl) (by simp only [ev_set] <;> rfl) (by simp only [ev_set] <;> rfl) (by simp only [ev_set] <;> rfl) (by simp only [ev_set] <;> rfl), by simp only [ev_set]; exact e7⟩

set_option maxHeartbeats 8000000 in
set_option maxRecDepth 20000 in
theorem sj_loop (Γ : Glob) (A lo k : Nat) (a m : Int) (v : SV) (vs : List SV) (rs : List (List (Int × Int))) (r : List (Int × Int)) (ha : Asc r) (hr0 : r.length ≤ 1000000) (h : Hp) (hA : At h A (.cells [.lit (.int .i64 a), .lit (.int .i64 m)] 44)) (hL : Ls h lo v vs rs) (hk : rs[k]? = some r) : ∀ (rem j : Nat), j + rem = r.length → ∀ (tm : T SV), Fr.ev ⟨tm, 76, []⟩ (.tmp 0) = v → Fr.ev ⟨tm, 76, []⟩ (.tmp 5) = .ptr A 0 → Fr.ev ⟨tm, 76, []⟩ (.tmp 6) = .lit (.int .i64 (Int.ofNat k)) → Fr.ev ⟨tm, 76, []⟩ (.tmp 7) = .lit (.int .i64 (val (r.take j) a)) → Fr.ev ⟨tm, 76, []⟩ (.tmp 8) = .lit (.int .i64 (Int.ofNat j)) →
    Runs Tryz.prog Γ (.code sjLoop none ⟨tm, 76, []⟩ h) fun o => ∃ tm' v0, o = ⟨.exit 4, ⟨tm', 76, []⟩, h, v0⟩ ∧ (∀ t ∈ [0, 3, 4, 5, 6], Fr.ev ⟨tm', 76, []⟩ (.tmp t) = Fr.ev ⟨tm, 76, []⟩ (.tmp t)) ∧ Fr.ev ⟨tm', 76, []⟩ (.tmp 7) = .lit (.int .i64 (val r a)) := by
  have hkl := (List.getElem?_eq_some_iff.1 hk).1
  obtain ⟨bl, u, lo', hv, hbl, hu, hui⟩ := hL.at hk
  intro rem
  induction rem with
  | zero =>
    intro j hj tm e0 e5 e6 e7 e8
    have hx0 : j = r.length := by omega
    rw [show r.take j = r by rw [hx0, List.take_length]] at e7
    refine runs_loop ?_
    refine runs_seq (runs_seq ?_)
    refine runs_region ?_
    refine ops_q (v := .lit (.int .i64 (Int.ofNat j))) (fs := []) rfl (by simp only [quiet, e8] <;> rfl) rfl rfl ?_
    refine ops_q (v := v) (fs := []) rfl (by simp only [quiet, ev_set, e0] <;> rfl) rfl rfl ?_
    refine ops_q (v := .lit (.int .i64 (Int.ofNat k))) (fs := []) rfl (by simp only [quiet, ev_set, e6] <;> rfl) rfl rfl ?_
    refine ops_q (v := .ptr bl k) (fs := []) rfl (by simp only [quiet, ev_set, hv]; exact congrArg one (listIdx hkl)) rfl rfl ?_
    refine ops_q (v := u) (fs := [.cells bl k [u]]) rfl (by simp only [quiet, ev_set]; exact load_row1 aggList hbl.get hu) rfl rfl ?_
    refine ops_q (v := .lit (.int .i64 (Int.ofNat r.length))) (fs := []) rfl (by simp only [quiet]; exact hui.len _) rfl rfl ?_
    refine ops_q (v := .lit (.bool false)) (fs := []) rfl (by simp only [quiet, ev_set]; exact congrArg one (lssF (by simp only [Int.ofNat_eq_natCast]; omega))) rfl rfl ?_
    refine ops_nil ?_
    refine runs_cond false rfl (runs_exit ?_)
    refine ⟨_, _, rfl, slots5 (by simp only [ev_set] <;> rfl) (by simp only [ev_set] <;> rfl) (by simp only [ev_set] <;> rfl) (by simp only [ev_set] <;> rfl) (by simp only [ev_set] <;> rfl), ?_⟩
    simp only [ev_set]; exact e7
  | succ rem ih =>
    intro j hj tm e0 e5 e6 e7 e8
    have hjl : j < r.length := by omega
    have hd : r[j]? = some r[j] := List.getElem?_eq_getElem hjl
    generalize r[j] = x at hd
    refine runs_loop ?_
    refine runs_seq (runs_seq ?_)
    refine runs_region ?_
    refine ops_q (v := .lit (.int .i64 (Int.ofNat j))) (fs := []) rfl (by simp only [quiet, e8] <;> rfl) rfl rfl ?_
    refine ops_q (v := v) (fs := []) rfl (by simp only [quiet, ev_set, e0] <;> rfl) rfl rfl ?_
    refine ops_q (v := .lit (.int .i64 (Int.ofNat k))) (fs := []) rfl (by simp only [quiet, ev_set, e6] <;> rfl) rfl rfl ?_
    refine ops_q (v := .ptr bl k) (fs := []) rfl (by simp only [quiet, ev_set, hv]; exact congrArg one (listIdx hkl)) rfl rfl ?_
    refine ops_q (v := u) (fs := [.cells bl k [u]]) rfl (by simp only [quiet, ev_set]; exact load_row1 aggList hbl.get hu) rfl rfl ?_
    refine ops_q (v := .lit (.int .i64 (Int.ofNat r.length))) (fs := []) rfl (by simp only [quiet]; exact hui.len _) rfl rfl ?_
    refine ops_q (v := .lit (.bool true)) (fs := []) rfl (by simp only [quiet, ev_set]; exact congrArg one (lssT (Int.ofNat_lt.2 hjl))) rfl rfl ?_
    refine ops_nil ?_
    refine runs_cond true rfl (runs_skip ?_)
    refine runs_seq (runs_block ((sj_body Γ A lo k j a m _ v vs rs r ha x _ h (by simp only [ev_set]; exact e0) (by simp only [ev_set]; exact e5) (by simp only [ev_set]; exact e6) (by simp only [ev_set]; exact e7) (by simp only [ev_set]; exact e8) hA hL hk hd rfl).mono ?_))
    rintro o ⟨tm', v0, rfl, hs, s7⟩
    rw [show ∀ fr hp v, atEnd 5 ⟨.normal, fr, hp, v⟩ = ⟨.normal, fr, hp, v⟩ from fun _ _ _ => rfl]
    have s0 := hs 0 (by decide)
    have s3 := hs 3 (by decide)
    have s4 := hs 4 (by decide)
    have s5 := hs 5 (by decide)
    have s6 := hs 6 (by decide)
    have s8 := hs 8 (by decide)
    simp only [ev_set] at s0 s3 s4 s5 s6 s8
    have s3 : Fr.ev ⟨tm', 76, []⟩ (.tmp 3) = Fr.ev ⟨tm, 76, []⟩ (.tmp 3) := s3
    have s4 : Fr.ev ⟨tm', 76, []⟩ (.tmp 4) = Fr.ev ⟨tm, 76, []⟩ (.tmp 4) := s4
    have t8 : Fr.ev ⟨tm', 76, []⟩ (.tmp 8) = .lit (.int .i64 (Int.ofNat j)) := s8.trans e8
    refine runs_region ?_
    refine ops_q (v := .lit (.int .i64 (Int.ofNat j))) (fs := []) rfl (by simp only [quiet, t8]) rfl rfl ?_
    refine ops_q (v := .lit (.int .i64 (Int.ofNat (j + 1)))) (fs := []) rfl (by simp only [quiet, ev_set]; exact congrArg one (addQ (c := Int.ofNat (j + 1)) rfl (by simp only [Int.ofNat_eq_natCast]; omega) (by simp only [Int.ofNat_eq_natCast]; omega))) rfl rfl ?_
    refine ops_q (v := .lit (.int .i64 (Int.ofNat (j + 1)))) (fs := []) rfl rfl rfl rfl ?_
    refine ops_nil ?_
    refine (ih (j + 1) (by omega) _ ?_ ?_ ?_ ?_ ?_).mono ?_
    · simp only [ev_set]; exact s0.trans e0
    · simp only [ev_set]; exact s5.trans e5
    · simp only [ev_set]; exact s6.trans e6
    · simp only [ev_set]; exact s7
    · simp only [ev_set]; rfl
    · rintro o ⟨tm2, v2, rfl, q1, q2⟩
      have q10 := q1 0 (by decide)
      have q13 := q1 3 (by decide)
      have q14 := q1 4 (by decide)
      have q15 := q1 5 (by decide)
      have q16 := q1 6 (by decide)
      simp only [ev_set] at q10 q13 q14 q15 q16
      exact ⟨tm2, v2, rfl, slots5 (q10.trans s0) (q13.trans s3) (q14.trans s4) (q15.trans s5) (q16.trans s6), q2⟩

end Go.Proofs.YtjilmneaeocimaaGreatDoor.snap
