/-
  A TREE GONE THROUGH: its nodes in order, each with how deep it stands; a stack of those that are still to come; by the author of this claim. | tree.walk, RANGED OVER: each node in order. | A RANGE OVER tree.walk, in a function that has one.
-/
import Derived.Test.YtcnfmcbmephdfaaGreatDoorDeG
namespace Go.Proofs.YtcnfmcbmephdfaaGreatDoor.d
open Go Go.Proofs.YtcnfmcbmephdfaaGreatDoor.Ev Go.Proofs.YtcnfmcbmephdfaaGreatDoor.snap
mutual
def preT : Tr → Int → List (Tr × Int)
  | .mk x ks, d => (.mk x ks, d) :: preL ks (d + 1)
def preL : List Tr → Int → List (Tr × Int)
  | [], _ => []
  | t :: ts, d => preT t d ++ preL ts d
end
mutual
theorem preT_len : ∀ (t : Tr) (d : Int), (preT t d).length = t.size
  | .mk x ks, d => by rw [preT, List.length_cons, preL_len ks, Tr.size]; omega
theorem preL_len : ∀ (ts : List Tr) (d : Int), (preL ts d).length = sizeL ts
  | [], _ => rfl
  | t :: ts, d => by rw [preL, List.length_append, preT_len t, preL_len ts, sizeL]
end
def rest (ts : List (Tr × Int)) : List (Tr × Int) := (ts.reverse.map fun x => preT x.1 x.2).flatten
theorem rest_snoc (ts : List (Tr × Int)) (t : Tr) (d : Int) : rest (ts ++ [(t, d)]) = preT t d ++ rest ts := by
  simp [rest]
theorem rest_append (ts us : List (Tr × Int)) : rest (ts ++ us) = rest us ++ rest ts := by
  simp [rest]
theorem rest_kids (ks : List Tr) (d : Int) : rest ((ks.map fun t => (t, d)).reverse) = preL ks d := by
  induction ks with
  | nil => rfl
  | cons t ks ih =>
    rw [List.map_cons, List.reverse_cons, rest_snoc, ih]
    rw [preL]
def ssize (ts : List (Tr × Int)) : Nat := sizeL (ts.map (·.1))
theorem ssize_append (a b : List (Tr × Int)) : ssize (a ++ b) = ssize a + ssize b := by
  rw [ssize, List.map_append, sizeL_append]; rfl
theorem sizeL_reverse (a : List Tr) : sizeL a.reverse = sizeL a := by
  induction a with
  | nil => rfl
  | cons t a ih => rw [List.reverse_cons, sizeL_append, ih, sizeL, sizeL, sizeL]; omega
theorem ssize_kids (ks : List Tr) (d : Int) : ssize ((ks.map fun t => (t, d)).reverse) = sizeL ks := by
  unfold ssize
  rw [List.map_reverse, List.map_map, sizeL_reverse]
  congr 1
  exact List.map_id' ks
def StepsAt (Γ : Glob) (h : Hp) (L : List (SV × Int)) (ts : List (Tr × Int)) : Prop := L.length = ts.length ∧ ∀ (i : Nat) (x : SV × Int) (t : Tr × Int), L[i]? = some x → ts[i]? = some t → TreeAt Γ h x.1 t.1 ∧ x.2 = t.2
theorem StepsAt.one {Γ : Glob} {h : Hp} {p : SV} {a : Tr} {d : Int} (h1 : TreeAt Γ h p a) : StepsAt Γ h [(p, d)] [(a, d)] := ⟨rfl, fun i x t hx ht => by
  cases i with
  | zero =>
    obtain rfl : (p, d) = x := by simpa using hx
    obtain rfl : (a, d) = t := by simpa using ht
    exact ⟨h1, rfl⟩
  | succ i => simp at hx⟩
theorem StepsAt.append {Γ : Glob} {h : Hp} {L M : List (SV × Int)} {ts us : List (Tr × Int)} (h1 : StepsAt Γ h L ts) (h2 : StepsAt Γ h M us) : StepsAt Γ h (L ++ M) (ts ++ us) := ⟨by rw [List.length_append, List.length_append, h1.1, h2.1], fun i x t hx ht => by
  by_cases hi : i < L.length
  · rw [List.getElem?_append_left hi] at hx
    rw [List.getElem?_append_left (by rw [← h1.1]; exact hi)] at ht
    exact h1.2 i x t hx ht
  · rw [List.getElem?_append_right (by omega)] at hx
    rw [List.getElem?_append_right (by rw [← h1.1]; omega), ← h1.1] at ht
    exact h2.2 _ x t hx ht⟩
theorem steps_last {Γ : Glob} {h : Hp} {L : List (SV × Int)} {ts : List (Tr × Int)} (w : StepsAt Γ h L ts) (hl : 0 < (L.length : Int)) :
    ∃ ti pa ta d, ts = ti ++ [(ta, d)] ∧ lget L ((L.length : Int) - 1) = (pa, d) ∧ TreeAt Γ h pa ta ∧ StepsAt Γ h (L.take (Int.toNat ((L.length : Int) - 1))) ti := by
  obtain ⟨w1, w2⟩ := w
  have hn : Int.toNat ((L.length : Int) - 1) = L.length - 1 := by omega
  have hi : L.length - 1 < L.length := by omega
  have ht : L.length - 1 < ts.length := by omega
  have h1 : L[L.length - 1]? = some L[L.length - 1] := List.getElem?_eq_getElem hi
  have h2 : ts[L.length - 1]? = some ts[L.length - 1] := List.getElem?_eq_getElem ht
  obtain ⟨a1, a2⟩ := w2 _ _ _ h1 h2
  refine ⟨ts.take (L.length - 1), L[L.length - 1].1, ts[L.length - 1].1, ts[L.length - 1].2, ?_, ?_, a1, ?_, ?_⟩
  · have : ts = ts.take (L.length - 1) ++ ts.drop (L.length - 1) := (List.take_append_drop ..).symm
    rw [List.drop_eq_getElem_cons ht, List.drop_eq_nil_of_le (by omega)] at this
    exact this
  · unfold lget
    rw [hn, h1, ← a2]
    rfl
  · rw [hn, List.length_take, List.length_take]; omega
  · intro i x t hx ht'
    rw [hn] at hx
    rw [List.getElem?_take] at hx ht'
    split at hx
    · rename_i hlt
      rw [if_pos hlt] at ht'
      exact w2 i x t hx ht'
    · cases hx
def kidSteps (q : Nat → SV) (d : Int) : Nat → List (SV × Int)
  | 0 => []
  | n + 1 => (q n, d) :: kidSteps q d n
theorem kidSteps_len (q : Nat → SV) (d : Int) : ∀ n, (kidSteps q d n).length = n
  | 0 => rfl
  | n + 1 => by rw [kidSteps, List.length_cons, kidSteps_len]
theorem kidSteps_get (q : Nat → SV) (d : Int) : ∀ n j, j < n → (kidSteps q d n)[j]? = some (q (n - 1 - j), d)
  | 0, _, h => by omega
  | n + 1, 0, _ => by simp [kidSteps]
  | n + 1, j + 1, h => by
    rw [kidSteps, List.getElem?_cons_succ, kidSteps_get q d n j (by omega)]
    rw [show n - 1 - j = n + 1 - 1 - (j + 1) by omega]
theorem StepsAt.kids {Γ : Glob} {h : Hp} {q : Nat → SV} {ks : List Tr} {d : Int} (ha : ∀ i t, ks[i]? = some t → TreeAt Γ h (q i) t) : StepsAt Γ h (kidSteps q d ks.length) ((ks.map fun t => (t, d)).reverse) := ⟨by rw [kidSteps_len, List.length_reverse, List.length_map], fun i x t hx ht => by
  have hi : i < ks.length := by
    have := (List.getElem?_eq_some_iff.1 hx).1
    rwa [kidSteps_len] at this
  rw [kidSteps_get q d _ _ hi] at hx
  obtain rfl : (q (ks.length - 1 - i), d) = x := Option.some.inj hx
  rw [List.getElem?_reverse (by rw [List.length_map]; exact hi), List.length_map, List.getElem?_map] at ht
  cases hk : ks[ks.length - 1 - i]? with
  | none => rw [hk] at ht; cases ht
  | some u =>
    rw [hk] at ht
    obtain rfl : (u, d) = t := by simpa using ht
    exact ⟨ha _ _ hk, rfl⟩⟩
theorem size_mem {t : Tr} : ∀ {ks : List Tr}, t ∈ ks → t.size ≤ sizeL ks
  | u :: ks, h => by
    rw [sizeL]
    rcases List.mem_cons.1 h with h | h
    · rw [h]; omega
    · have := size_mem h; omega
def Deep (m : Int) (ts : List (Tr × Int)) : Prop := ∀ x ∈ ts, 1 ≤ x.2 ∧ x.2 + x.1.size ≤ m
theorem Deep.kids {m : Int} {ti : List (Tr × Int)} {x : ND} {ks : List Tr} {d : Int} (w : Deep m (ti ++ [(⟨x, ks⟩, d)])) : Deep m (ti ++ (ks.map fun t => (t, d + 1)).reverse) ∧ 1 ≤ d ∧ d + 1 ≤ m := by
  have h1 := w (⟨x, ks⟩, d) (List.mem_append_right _ (List.mem_singleton.2 rfl))
  have hs : ((Tr.mk x ks).size : Int) = 1 + sizeL ks := by rw [Tr.size]; omega
  simp only at h1
  rw [hs] at h1
  refine ⟨fun y hy => ?_, h1.1, by omega⟩
  rcases List.mem_append.1 hy with hy | hy
  · exact w y (List.mem_append_left _ hy)
  · rw [List.mem_reverse, List.mem_map] at hy
    obtain ⟨t, ht, rfl⟩ := hy
    have := size_mem ht
    simp only
    omega
theorem leave_t0n {P : Program} {Γ : Glob} {fn : Func} {tm : T SV} {n : Nat} {hp : Hp} {v : SV} (hr : fn.results.toList = []) : leave P Γ fn ⟨.normal, ⟨tm, n, []⟩, hp, v⟩ = some [⟨.ret, ⟨tm, n, []⟩, hp, .tuple []⟩] := by
  simp only [leave, shutMarks, hr, resultsQ]
def RoundsT (Γ : Glob) (A : Hp) (B lo : Nat) (its : List (Tr × Int)) (J : Nat → Hp → Prop) (Q : Hp → Prop) : Prop := ∀ (k : Nat) (t : Tr) (d : Int) (p : SV) (h' : Hp), its[k]? = some (t, d) → TreeAt Γ A p t → lo ≤ h'.next → J k h' → Runs Tryz.prog Γ (.round B [p, .lit (.int .i64 d)] h') fun o => (o.v = .lit (.bool true) ∧ J (k + 1) o.hp ∨ o.v = .lit (.bool false) ∧ Q o.hp) ∧ h'.next ≤ o.hp.next ∧ ∀ b, lo ≤ b → b < h'.next → o.hp.objs.get b = h'.objs.get b
theorem LL.kinds {α : Type} {h : Hp} {lo b : Nat} {e : TypeId} {size : Nat} {v : SV} {enc : α → List SV} {L : List α} (w : LL h lo b e size v enc L) {H : Hp} (hn : h.next ≤ H.next) (j : ∀ c, lo ≤ c → c < h.next → H.objs.get c = h.objs.get c) : LL H lo b e size v enc L := by
  rcases w.2 with h1 | ⟨h1, h2, h3⟩
  · exact ⟨w.1, .inl h1⟩
  · exact Lst.same w hn fun h2 => j _ h1 h2
end Go.Proofs.YtcnfmcbmephdfaaGreatDoor.d
namespace Go.Proofs.YtcnfmcbmephdfaaGreatDoor.d
open Go Go.Proofs.YtcnfmcbmephdfaaGreatDoor.Ev Go.Proofs.YtcnfmcbmephdfaaGreatDoor.snap
def enc305 (x : SV × Int) : List SV := [x.1, iV x.2]
set_option maxRecDepth 20000 in
theorem info305 : InfoOk Tryz.prog 305 2 := ⟨_, _, rfl, rfl, rfl, by decide, rfl⟩
noncomputable def walk1_l0_l2_o9 : Array Oper := opsOf (inBlk (seqL (seqR (inLoop (inBlk (seqR (seqR (seqR (seqR (seqR (inBlk (seqR (inLoop (inBlk (seqR (bodyOf Tryz.f173))))))))))))))))
def walk1_l0_l2 (qa : Nat → SV) (dd : Int) : Nat → List (SV × Int) → Int → List (SV × Int) × Int
 | 0, L3, x6 => (L3, x6)
 | f + 1, L3, x6 => if x6 ≥ 0 then
  walk1_l0_l2 qa dd f (L3 ++ [(qa (Int.toNat x6), dd + 1)]) (x6 - 1)
 else
  (L3, x6)
noncomputable def walk1_l0_l2_c : Code := (inBlk (seqR (seqR (seqR (seqR (seqR (inBlk (seqR (inLoop (inBlk (seqR (bodyOf Tryz.f173))))))))))))
set_option maxHeartbeats 8000000 in
set_option maxRecDepth 20000 in
theorem walk1_l0_l2_runs (Γ : Glob) (B : Nat) (b4 : Nat) (pa : SV) (xa : ND) (_k : Nat) (Za : SV) (ka : List Tr) (qa : Nat → SV) (dd : Int) (_hla : LenIs Za ka.length) (hia : ∀ i, i < ka.length → indexAddrQ Tryz.prog 34 Za (iV (Int.ofNat i)) = some (qa i)) (hoa : ∀ {i : Int}, 0 ≤ i → i < ka.length → SV.one (qa i.toNat) = true) (h0 : Hp) (lo : Nat) (h00 : h0.next ≤ lo) (_hpa : PtrTo Γ h0 pa [iV xa.k, iV xa.v0, iV xa.v1, iV xa.v2, sV xa.v3, bV xa.v4, iV xa.v5, sV xa.name, iV xa.a0, iV xa.a1, iV xa.a2, iV xa.a3, bV xa.a4, bV xa.a5, iV xa.b0, iV xa.b1, iV xa.b2, iV xa.b3, bV xa.b4, bV xa.b5, iV xa.rows, Za]) : ∀ (fuel : Nat) (L3 : List (SV × Int)) (x6 : Int) (v3 : SV) (sb3 : Nat) (tm : T SV) (h : Hp) (r : List (SV × Int) × Int), walk1_l0_l2 qa dd fuel L3 x6 = r → ((x6 + 1).toNat) < fuel → (-1 ≤ x6 ∧ x6 < (ka.length : Int) ∧ (L3.length : Int) + (x6 + 1) ≤ 1900000 ∧ (ka.length : Int) ≤ 1900000 ∧ 1 ≤ dd ∧ dd + 1 ≤ 1900001) → lo ≤ h.next → Kept h0.next h0 h → Fr.ev ⟨tm, 53, []⟩ (.tmp 0) = .yield B → Fr.ev ⟨tm, 53, []⟩ (.tmp 3) = v3 → Fr.ev ⟨tm, 53, []⟩ (.tmp 4) = .ptr b4 0 → Fr.ev ⟨tm, 53, []⟩ (.tmp 5) = Za → Fr.ev ⟨tm, 53, []⟩ (.tmp 6) = iV x6 → LL h lo sb3 305 2 v3 enc305 L3 → At h b4 (.cells [pa, iV dd] 305) → Off v3 sb3 b4 →
  Runs Tryz.prog Γ (.code walk1_l0_l2_c none ⟨tm, 53, []⟩ h) fun o => ∃ tm2 H v v32 sb32, o = ⟨.exit 2, ⟨tm2, 53, []⟩, H, v⟩ ∧ (Fr.ev ⟨tm2, 53, []⟩ (.tmp 0) = .yield B ∧ Fr.ev ⟨tm2, 53, []⟩ (.tmp 3) = v32 ∧ Fr.ev ⟨tm2, 53, []⟩ (.tmp 4) = .ptr b4 0 ∧ Fr.ev ⟨tm2, 53, []⟩ (.tmp 5) = Za ∧ Fr.ev ⟨tm2, 53, []⟩ (.tmp 6) = iV r.2) ∧ (LL H lo sb32 305 2 v32 enc305 r.1) ∧ (At H b4 (.cells [pa, iV dd] 305) ∧ Off v32 sb32 b4) ∧ (-1 ≤ r.2 ∧ r.2 < (ka.length : Int) ∧ (r.1.length : Int) + (r.2 + 1) ≤ 1900000 ∧ (ka.length : Int) ≤ 1900000 ∧ 1 ≤ dd ∧ dd + 1 ≤ 1900001) ∧ Kept lo h H := by
 intro fuel
 induction fuel with
 | zero =>
  intros
  omega
 | succ f ih =>
  intro L3 x6 v3 sb3 tm h r hr hm hi hlo K0 e0 e3 e4 e5 e6 hl3 gb4 of3b4
  refine runs_loop ?_
  refine runs_seq ?_
  refine sr ?_
  refine oqp (iV x6) (by simp only [quiet, e6] <;> rfl) ?_
  by_cases c1 : x6 ≥ 0
  refine oqp (bV true) (by exact congrArg one (c3_geqT c1)) ?_
  refine nt ?_
  refine runs_cond true rfl ?_
  refine runs_skip ?_
  refine then_n ?_
  refine runs_seq ?_
  refine runs_blk ?_
  refine runs_drawn (ops := walk1_l0_l2_o9) rfl ?_
  have t_walk1_l0_l2_o9_5_8 : Nat.testBit (descOf 5 walk1_l0_l2_o9.toList 0 0) 8 = true := rfl
  refine drawn_bsl (i := 8) (m' := 255) (held' := [⟨descOf 5 walk1_l0_l2_o9.toList 0 0, [.cells b4 1 [iV dd]], none⟩]) (hp := h) (t := 306) (m := 1) (cs := [qa (Int.toNat x6), iV (dd + 1)]) (e := 305) rfl (noChg_cons trivial) (by
   refine tqp v3 (by simp only [quiet, ev_set, e3] <;> rfl) ?_
   refine tqp Za (by simp only [quiet, ev_set, e5] <;> rfl) ?_
   refine tqp (iV x6) (by simp only [quiet, ev_set, e6] <;> rfl) ?_
   refine tqp (qa (Int.toNat x6)) (by exact congrArg one (idx_kid hia (by omega) (by omega))) ?_
   refine tqp (.ptr b4 1) (by simp only [quiet, ev_set, e4] <;> rfl) ?_
   refine take_f (v := iV dd) (fact := .cells b4 1 [iV dd]) rfl rfl rfl (by exact load_cell (P := Tryz.prog) (t := 3) (k := 1) (v := iV dd) rfl gb4.get rfl) rfl rfl ?_
   refine tqp (iV (dd + 1)) (by exact congrArg one (a3_add (by omega) (by omega) (by omega))) ?_
   refine tqp (.agg [qa (Int.toNat x6), iV (dd + 1)]) (by exact congrArg one (build_of (ps := [(0, qa (Int.toNat x6)), (1, iV (dd + 1))]) (l2 := [qa (Int.toNat x6), iV (dd + 1)]) rfl rfl rfl (fill_raw (l := [.lit (.pointer none), iV 0]) (off := 0) rfl (hoa (i := x6) (by omega) (by omega)) (show 0 < 2 from by decide) (fill_lit (off := 1) rfl rfl rfl rfl)))) ?_
   refine take_loud rfl rfl rfl rfl rfl ?_
   refine tw ?_
   refine tw ?_
   rfl) (by rfl) (by rfl) (build_one (P := Tryz.prog) (st := 306) (e := 305) (n := 2) (c := [qa (Int.toNat x6), iV (dd + 1)]) rfl rfl rfl rfl (by decide) (by decide) rfl rfl (by simp only [List.all_cons, List.all_nil, (hoa (i := x6) (by omega) (by omega)), one_int, Bool.and_self])) rfl rfl (fun H1 g1 k1 n1 => ?_)
  have lt0_1 : b4 < h.next := gb4.lt
  have of1_1 : Off v3 sb3 h.next := hl3.off (.inr (Nat.le_refl _))
  have lo1_0 : h0.next ≤ h.next := (Nat.le_trans (Nat.le_refl _) K0.next)
  have lo1_1 : lo ≤ h.next := hlo
  have gb4_H1 := gb4.kept k1
  have hl3_H1 := hl3.kept k1
  have KH1 : Kept h0.next h0 H1 := K0.trans (k1.less (Nat.le_trans (Nat.le_refl _) K0.next))
  have K1H1 : Kept lo h H1 := k1.less hlo
  refine ⟨(stands_yes t_walk1_l0_l2_o9_5_8 stands_nil), _, (drop_yes t_walk1_l0_l2_o9_5_8 rfl), ?_⟩
  refine drawn_push (i := 9) (m' := 511) (held' := []) (hp := H1) (v := v3) (nb := h.next) (x := (qa (Int.toNat x6), dd + 1)) (L := L3) info305 rfl (by decide) rfl trivial (by
   iterate 9 refine td ?_
   refine take_loud rfl rfl rfl rfl rfl ?_
   refine tw ?_
   rfl) (by rfl) (by rfl) rfl rfl rfl rfl hl3_H1 g1 rfl rfl (by simp only [List.all_cons, List.all_nil, (hoa (i := x6) (by omega) (by omega)), one_int, Bool.and_self]) (by omega) (Nat.le_trans hlo K1H1.next) of1_1 (fun w2 H2 sb_2 hl_2 n2 j2 p2 kl2 => ?_)
  have gb4_H2 := gb4_H1.off n2 (j2 _ gb4_H1.lt of3b4)
  have of2_2 := p2 _ gb4_H1.lt of3b4
  have g1_H2 := g1.off n2 (j2 _ g1.lt of1_1)
  have of3_2 := p2 _ g1.lt of1_1
  have KH2 : Kept h0.next h0 H2 := KH1.trans (kl2.less h00)
  have K1H2 : Kept lo h H2 := K1H1.trans (kl2.less (Nat.le_refl _))
  have q_2 : (((L3 ++ [(qa (Int.toNat x6), dd + 1)])).length : Int) = (L3.length : Int) + 1 := by rw [List.length_append, List.length_singleton]; omega
  refine ⟨stands_nil, _, rfl, ?_⟩
  refine drawn_end (m' := 2047) (held' := []) (hp' := H2) (by
   iterate 10 refine td ?_
   refine tq w2 ?_
   rfl) (by rfl) (by rfl) ?_
  refine blk_n ?_
  refine then_n ?_
  refine runs_region ?_
  refine oqp (iV x6) (by simp only [quiet, ev_set, e6] <;> rfl) ?_
  refine oqp (iV (x6 - 1)) (by exact congrArg one (a3_sub (by omega) (by omega) (by omega))) ?_
  refine oq (iV (x6 - 1)) ?_
  refine nt ?_
  refine (ih (L3 ++ [(qa (Int.toNat x6), dd + 1)]) (x6 - 1) w2 sb_2 _ _ r (by rw [← hr, walk1_l0_l2]; simp only [if_pos c1]) (by omega) (by omega) (Nat.le_trans hlo K1H2.next) KH2 (by simp only [ev_set, e0] <;> rfl) rfl (by simp only [ev_set, e4] <;> rfl) (by simp only [ev_set, e5] <;> rfl) rfl hl_2 gb4_H2 of2_2).mono ?_
  exact fun o ⟨tm2, H, v, w0, w1, a1, a2, a3, a5, a0, a4⟩ => ⟨tm2, H, v, w0, w1, a1, a2, a3, a5, a0, Kept.trans K1H2 a4⟩
  refine oqp (bV false) (by exact congrArg one (c3_geqF c1)) ?_
  refine nt ?_
  refine runs_cond false rfl ?_
  refine runs_exit ?_
  refine then_x ?_
  refine then_x ?_
  obtain rfl : (L3, x6) = r := by rw [← hr, walk1_l0_l2]; simp only [if_neg c1]
  exact ⟨_, _, _, v3, sb3, rfl, ⟨(by simp only [ev_set, e0] <;> rfl), (by simp only [ev_set, e3] <;> rfl), (by simp only [ev_set, e4] <;> rfl), (by simp only [ev_set, e5] <;> rfl), (by simp only [ev_set, e6] <;> rfl)⟩, hl3, ⟨gb4, of3b4⟩, (by (try dsimp only); omega), (Kept.refl _ _)⟩
theorem walk_push (_ka : List Tr) (qa : Nat → SV) (dd : Int) : ∀ (n fuel : Nat), n < fuel → ∀ L : List (SV × Int), (walk1_l0_l2 qa dd fuel L ((n : Int) - 1)).1 = L ++ kidSteps qa (dd + 1) n := by
 intro n
 induction n with
 | zero =>
  intro fuel hf L
  obtain ⟨f, rfl⟩ : ∃ f, fuel = f + 1 := ⟨fuel - 1, by omega⟩
  rw [walk1_l0_l2, if_neg (by omega), kidSteps, List.append_nil]
 | succ n ih =>
  intro fuel hf L
  obtain ⟨f, rfl⟩ : ∃ f, fuel = f + 1 := ⟨fuel - 1, by omega⟩
  have := ih f (by omega) (L ++ [(qa n, dd + 1)])
  rw [walk1_l0_l2, if_pos (by omega), kidSteps]
  rw [show ((n + 1 : Nat) : Int) - 1 = (n : Int) by omega, Int.toNat_natCast, this, List.append_assoc]
  rfl
noncomputable def walk1_l0_c : Code := (inBlk (seqR (bodyOf Tryz.f173)))
set_option maxHeartbeats 8000000 in
set_option maxRecDepth 20000 in
theorem walk1_l0_runs (Γ : Glob) (B : Nat) (J : Nat → Hp → Prop) (Q : Hp → Prop) (tt : Tr) (_hsz : tt.size ≤ 1900000) (h0 : Hp) (lo : Nat) (h00 : h0.next ≤ lo) (hJK : ∀ k H, J k H → Kept h0.next h0 H) (hJs : ∀ k h1 h2, J k h1 → Kept lo h1 h2 → J k h2) (_hQs : ∀ h1 h2, Q h1 → Kept lo h1 h2 → Q h2) (hR : RoundsT Γ h0 B lo (preT tt 1) J Q) : ∀ (fuel : Nat) (L3 : List (SV × Int)) (k : Nat) (ts : List (Tr × Int)) (v3 : SV) (sb3 : Nat) (tm : T SV) (h : Hp), (ssize ts) < fuel → (StepsAt Γ h0 L3 ts ∧ (preT tt 1).drop k = rest ts ∧ Deep 1900001 ts ∧ ssize ts ≤ 1900000 ∧ k ≤ (preT tt 1).length) → lo ≤ h.next → Kept h0.next h0 h → J k h → Fr.ev ⟨tm, 53, []⟩ (.tmp 0) = .yield B → Fr.ev ⟨tm, 53, []⟩ (.tmp 3) = v3 → LL h lo sb3 305 2 v3 enc305 L3 →
  Runs Tryz.prog Γ (.code walk1_l0_c none ⟨tm, 53, []⟩ h) fun o => (∃ tm2 H v, o = ⟨.ret, ⟨tm2, 53, []⟩, H, v⟩ ∧ Q H) ∨ (∃ tm2 H v, o = ⟨.exit 0, ⟨tm2, 53, []⟩, H, v⟩ ∧ J (preT tt 1).length H) := by
 intro fuel
 induction fuel with
 | zero =>
  intros
  omega
 | succ f ih =>
  intro L3 k ts v3 sb3 tm h hm hi hlo K0 j0 e0 e3 hl3
  refine runs_loop ?_
  refine runs_seq ?_
  refine sr ?_
  refine oqp v3 (by simp only [quiet, e3] <;> rfl) ?_
  refine oqp (iV (L3.length : Int)) (by exact LL.len rfl rfl hl3) ?_
  by_cases c1 : (L3.length : Int) > 0
  refine oqp (bV true) (by exact congrArg one (c3_gtrT c1)) ?_
  refine nt ?_
  refine runs_cond true rfl ?_
  refine runs_skip ?_
  refine then_n ?_
  refine runs_blk ?_
  refine sr ?_
  obtain ⟨ti, pa, ⟨xa, ka⟩, dd, hts, hget, hta, hti⟩ := steps_last hi.1 (by omega)
  obtain ⟨Za, hpa, hla, qa, hia, hka⟩ := hta.out
  have hoa : ∀ {i : Int}, 0 ≤ i → i < ka.length → SV.one (qa i.toNat) = true := fun h0 h1 => kids_one hka h0 h1
  have hsz : ssize ts = ssize ti + (1 + sizeL ka) := by rw [hts, ssize_append]; rfl
  have hka1 := len_sizeL ka
  have hti1 : (ti.length : Int) ≤ ssize ti := by have := len_sizeL (ti.map (·.1)); rw [List.length_map] at this; unfold ssize; omega
  have hti2 : ((L3.take (Int.toNat ((L3.length : Int) - 1))).length : Int) = ti.length := by rw [hti.1]
  have hL1 : (L3.length : Int) = (ti.length : Int) + 1 := by rw [hi.1.1, hts, List.length_append, List.length_singleton]; omega
  have hi3 := hi.2.2.2.1
  have hdeep := hi.2.2.1
  rw [hts] at hdeep
  obtain ⟨hdk, hd1, hd2⟩ := hdeep.kids
  have hrest : (preT tt 1).drop k = (Tr.mk xa ka, dd) :: (preL ka (dd + 1) ++ rest ti) := by rw [hi.2.1, hts, rest_snoc, preT]; rfl
  have hit : (preT tt 1)[k]? = some (Tr.mk xa ka, dd) := by have := congrArg (fun l => l[0]?) hrest; simpa using this
  have hrest2 : (preT tt 1).drop (k + 1) = preL ka (dd + 1) ++ rest ti := by have := congrArg List.tail hrest; simpa using this
  refine oqp v3 (by simp only [quiet, ev_set, e3] <;> rfl) ?_
  refine oqp v3 (by simp only [quiet, ev_set, e3] <;> rfl) ?_
  refine oqp (iV (L3.length : Int)) (by exact LL.len rfl rfl hl3) ?_
  refine oqp (iV ((L3.length : Int) - 1)) (by exact congrArg one (a3_sub (by omega) (by omega) (by omega))) ?_
  refine oqp (.ptr sb3 (Int.toNat ((L3.length : Int) - 1) * 2)) (by exact congrArg one (LL.idx rfl rfl hl3 (by omega) (by omega))) ?_
  refine oqf (.agg [pa, iV dd]) ([.cells sb3 ((Int.toNat ((L3.length : Int) - 1) * 2) + 0) [pa, iV dd]]) (by exact win_cut (P := Tryz.prog) (t := 305) (k := 0) (n := 2) (vs := [pa, iV dd]) rfl rfl (LL.win_eq (i := (L3.length : Int) - 1) hl3 (by omega) (by omega) hget) rfl) ?_
  refine ops_alloc (z := .agg #[.pointer none, .int .i64 0]) rfl rfl rfl rfl rfl (fun H1 g1 k1 n1 => ?_)
  have of0_1 : Off v3 sb3 h.next := hl3.off (.inr (Nat.le_refl _))
  have lo1_0 : h0.next ≤ h.next := (Nat.le_trans (Nat.le_refl _) K0.next)
  have lo1_1 : lo ≤ h.next := hlo
  have hl3_H1 := hl3.kept k1
  have KH1 : Kept h0.next h0 H1 := K0.trans (k1.less (Nat.le_trans (Nat.le_refl _) K0.next))
  have K1H1 : Kept lo h H1 := k1.less hlo
  refine ops_storeA (b := h.next) (off := 0) (v := .agg [pa, iV dd]) (l2 := [pa, iV dd]) rfl rfl rfl rfl rfl rfl rfl g1.get (splice_all (l := [.lit (.pointer none), iV 0]) (off := 0) (vs := [pa, iV dd]) (show 2 ≤ 2 from by decide) (by simp only [List.all_cons, List.all_nil, ((hpa.kept KH1)).one, one_int, Bool.and_self])) (fun H2 g2 j2 n2 => ?_)
  have g2 : At H2 h.next _ := ⟨by rw [n2]; exact g1.lt, g2⟩
  have hl3_H2 := hl3_H1.other of0_1 j2 n2
  have KH2 : Kept h0.next h0 H2 := kept_other KH1 j2 n2 lo1_0
  have K1H2 : Kept lo h H2 := kept_other K1H1 j2 n2 lo1_1
  refine nt ?_
  refine sr ?_
  refine oqp v3 (by simp only [quiet, ev_set, e3] <;> rfl) ?_
  refine oqp v3 (by simp only [quiet, ev_set, e3] <;> rfl) ?_
  refine oqp (iV (L3.length : Int)) (by exact LL.len rfl rfl hl3_H2) ?_
  refine oqp (iV ((L3.length : Int) - 1)) (by exact congrArg one (a3_sub (by omega) (by omega) (by omega))) ?_
  obtain ⟨w3, ht3, hl_3⟩ := LL.take (P := Tryz.prog) (t := 306) (i := (L3.length : Int) - 1) rfl rfl hl3_H2 (by omega) (by omega)
  have q_3 : (((L3.take (Int.toNat ((L3.length : Int) - 1)))).length : Int) = (L3.length : Int) - 1 := by rw [List.length_take]; omega
  have of1_3 : Off w3 sb3 h.next := LL.off_take hl3_H2 (by omega) of0_1
  refine oqp w3 (by exact congrArg one ht3) ?_
  refine oq w3 ?_
  refine nt ?_
  refine sr ?_
  refine oq (.ptr h.next 0) ?_
  refine olc pa 0 g2 ?_
  refine oqp pa (by exact px_nil (hpa.kept KH2)) ?_
  refine oqp (padd pa 21) (by exact congrArg one (px_field (off := 21) (hpa.kept KH2) (fun _ _ => rfl) (fun _ _ => rfl))) ?_
  refine oqf Za (pfacts pa 21 [Za]) (by exact px_cell (P := Tryz.prog) (t := 34) (k := 21) (v := Za) rfl (hpa.kept KH2) rfl) ?_
  refine oq Za ?_
  refine nt ?_
  refine runs_seq ?_
  refine sr ?_
  refine oqp (.yield B) (by simp only [quiet, ev_set, e0] <;> rfl) ?_
  refine oq (.ptr h.next 0) ?_
  refine olc pa 0 g2 ?_
  refine oq (.ptr h.next 1) ?_
  refine olc (iV dd) 1 g2 ?_
  refine ops_yield (b := B) (args := [pa, iV dd]) rfl rfl rfl rfl rfl ?_
  refine (hR k _ dd pa H2 hit hta (Nat.le_trans hlo K1H2.next) (hJs _ _ _ j0 K1H2)).mono ?_
  rintro ⟨ex4, fr4, H4, vv4⟩ ⟨⟨hv4, j4⟩ | ⟨hv4, j4⟩, hn4, hd4⟩
  have hv4 : vv4 = bV true := hv4
  subst hv4
  have hn4 : H2.next ≤ H4.next := hn4
  have hd4 : ∀ b, lo ≤ b → b < H2.next → H4.objs.get b = H2.objs.get b := hd4
  have j4 : J (k + 1) H4 := j4
  have g2_H4 := g2.off hn4 (hd4 _ lo1_1 g2.lt)
  have hl3_H4 := hl3_H2.kinds hn4 hd4
  have hl_H4 := hl_3.kinds hn4 hd4
  have KH4 : Kept h0.next h0 H4 := hJK _ _ j4
  refine oq (bV false) ?_
  refine nt ?_
  refine runs_cond false rfl ?_
  refine runs_skip ?_
  refine then_n ?_
  refine sr ?_
  refine oq Za ?_
  refine oqp (iV (ka.length : Int)) (by exact hla.2.2 _) ?_
  refine oqp (iV ((ka.length : Int) - 1)) (by exact congrArg one (a3_sub (by omega) (by omega) (by omega))) ?_
  refine oq (iV ((ka.length : Int) - 1)) ?_
  refine nt ?_
  refine runs_blk ?_
  obtain ⟨r5, hr5⟩ : ∃ r, walk1_l0_l2 qa dd ((((ka.length : Int) - 1) + 1).toNat + 1) (L3.take (Int.toNat ((L3.length : Int) - 1))) ((ka.length : Int) - 1) = r := ⟨_, rfl⟩
  refine (walk1_l0_l2_runs Γ B h.next pa xa k Za ka qa dd hla hia hoa h0 lo h00 hpa ((((ka.length : Int) - 1) + 1).toNat + 1) (L3.take (Int.toNat ((L3.length : Int) - 1))) ((ka.length : Int) - 1) w3 sb3 _ _ _ hr5 (by omega) (by omega) (Nat.le_trans (Nat.le_trans hlo K1H2.next) hn4) KH4 (by simp only [ev_set, e0] <;> rfl) rfl rfl rfl rfl hl_H4 g2_H4 of1_3).mono ?_
  rintro _ ⟨tm5, H5, v5, v3_5, sb3_5, rfl, ⟨e0_5, e3_5, e4_5, e5_5, e6_5⟩, hl3_5, ⟨g2b_5, oz3b4_5⟩, i5, k5⟩
  refine blk_x ?_
  have KH5 : Kept h0.next h0 H5 := KH4.trans (k5.less h00)
  have K1H5 : Kept lo H4 H5 := k5.less (Nat.le_refl _)
  refine blk_n ?_
  refine then_n ?_
  have hres : r5.1 = (L3.take (Int.toNat ((L3.length : Int) - 1))) ++ kidSteps qa (dd + 1) ka.length := by rw [← hr5]; exact walk_push ka qa dd ka.length _ (by omega) _
  have hps : ssize (ti ++ (ka.map fun t => (t, dd + 1)).reverse) = ssize ti + sizeL ka := by rw [ssize_append, ssize_kids]
  refine (ih r5.1 (k + 1) (ti ++ (ka.map fun t => (t, dd + 1)).reverse) v3_5 sb3_5 _ _ (by omega) ⟨by rw [hres]; exact hti.append (StepsAt.kids hka), by rw [hrest2, rest_append, rest_kids], hdk, by omega, (List.getElem?_eq_some_iff.1 hit).1⟩ (Nat.le_trans (Nat.le_trans (Nat.le_trans hlo K1H2.next) hn4) K1H5.next) KH5 (hJs _ _ _ j4 K1H5) (by simp only [e0_5] <;> rfl) (by simp only [e3_5] <;> rfl) hl3_5  ).mono ?_
  exact fun o ho => ho
  have hv4 : vv4 = bV false := hv4
  subst hv4
  have hn4 : H2.next ≤ H4.next := hn4
  have hd4 : ∀ b, lo ≤ b → b < H2.next → H4.objs.get b = H2.objs.get b := hd4
  have j4 : Q H4 := j4
  have g2_H4 := g2.off hn4 (hd4 _ lo1_1 g2.lt)
  have hl3_H4 := hl3_H2.kinds hn4 hd4
  have hl_H4 := hl_3.kinds hn4 hd4
  refine oq (bV true) ?_
  refine nt ?_
  refine runs_cond true rfl ?_
  refine runs_ret ?_
  refine then_r ?_
  refine blk_r ?_
  refine then_r ?_
  exact .inl ⟨_, _, _, rfl, j4⟩
  refine oqp (bV false) (by exact congrArg one (c3_gtrF c1)) ?_
  refine nt ?_
  refine runs_cond false rfl ?_
  refine runs_exit ?_
  refine then_x ?_
  refine then_x ?_
  exact .inr ⟨_, _, _, rfl, (by have h1 : ts = [] := List.length_eq_zero_iff.1 (by rw [← hi.1.1]; omega); have h2 := hi.2.1; rw [h1] at h2; have h3 : (preT tt 1).length ≤ k := List.drop_eq_nil_iff.1 h2; have h4 := j0; have h5 := hi.2.2.2.2; rw [show (preT tt 1).length = k by omega]; exact h4)⟩
set_option maxHeartbeats 8000000 in
set_option maxRecDepth 20000 in
theorem walk1_runs (Γ : Glob) (A : Hp) (B : Nat) (C : Nat) (p : SV) (tt : Tr) (J : Nat → Hp → Prop) (Q : Hp → Prop) (h : Hp) (hC : At h C (.cells [p] 219)) (hT : TreeAt Γ A p tt) (hsz : tt.size ≤ 1900000) (hJK : ∀ k H, J k H → Kept A.next A H) (hJs : ∀ k h1 h2, J k h1 → Kept h.next h1 h2 → J k h2) (hQs : ∀ h1 h2, Q h1 → Kept h.next h1 h2 → Q h2) (hR : RoundsT Γ A B h.next (preT tt 1) J Q) (j0 : J 0 h) : Runs Tryz.prog Γ (.call 173 [.yield B, .ptr C 0] h) (fun o => J (preT tt 1).length o.hp ∨ Q o.hp) := by
 refine runs_call Tryz.func173 rfl ?_
 refine sr ?_
 refine olc p 0 hC ?_
 refine oqp (.agg [p, iV 1]) (by exact congrArg one (build_of (ps := [(0, p), (1, iV 1)]) (l2 := [p, iV 1]) rfl rfl rfl (fill_raw (l := [.lit (.pointer none), iV 0]) (off := 0) rfl hT.one (show 0 < 2 from by decide) (fill_lit (off := 1) rfl rfl rfl rfl)))) ?_
 refine ops_bsl (t := 306) (k := 1) (cs := [p, iV 1]) (e := 305) rfl rfl (build_one (P := Tryz.prog) (st := 306) (e := 305) (n := 2) (c := [p, iV 1]) rfl rfl rfl rfl (by decide) (by decide) rfl rfl (by simp only [List.all_cons, List.all_nil, hT.one, one_int, Bool.and_self])) rfl rfl (fun H1 g1 k1 n1 => ?_)
 have lt0_1 : C < h.next := hC.lt
 have lo1_0 : A.next ≤ h.next := (Nat.le_trans (Nat.le_refl _) (hJK _ _ j0).next)
 have lo1_1 : h.next ≤ h.next := (Nat.le_refl _)
 have hC_H1 := hC.kept k1
 have KH1 : Kept A.next A H1 := (hJK _ _ j0).trans (k1.less (Nat.le_trans (Nat.le_refl _) (hJK _ _ j0).next))
 refine oq (.slice h.next 0 1 1) ?_
 refine nt ?_
 refine runs_blk ?_
 refine (walk1_l0_runs Γ B J Q tt hsz A h.next lo1_0 hJK hJs hQs hR (ssize [(tt, 1)] + 1) [(p, 1)] 0 [(tt, 1)] (.slice h.next 0 1 1) h.next _ _  (by omega) ⟨StepsAt.one hT, by rw [List.drop_zero]; show _ = (([(tt, (1 : Int))].reverse).map fun x => preT x.1 x.2).flatten; simp, fun x hx => by rw [List.mem_singleton.1 hx]; exact ⟨Int.le_refl _, by show (1 : Int) + tt.size ≤ _; omega⟩, by show tt.size + 0 ≤ _; omega, Nat.zero_le _⟩ (Nat.le_of_lt g1.lt) KH1 (hJs _ _ _ j0 k1) rfl rfl (LL.of1 g1 rfl rfl (by simp only [List.all_cons, List.all_nil, hT.one, one_int, Bool.and_self]) (Nat.le_refl _))  ).mono ?_
 rintro _ (⟨tm2, H2, v2, rfl, hq2⟩ | ⟨tm2, H2, v2, rfl, hq2⟩)
 refine blk_r ?_
 exact ⟨_, leave_t0 rfl, .inr hq2⟩
 refine blk_x ?_
 exact ⟨_, leave_t0n rfl, .inl hq2⟩
end Go.Proofs.YtcnfmcbmephdfaaGreatDoor.d
namespace Go.Proofs.YtcnfmcbmephdfaaGreatDoor.d
open Go Go.Proofs.YtcnfmcbmephdfaaGreatDoor.Ev Go.Proofs.YtcnfmcbmephdfaaGreatDoor.snap
theorem upd_same {h : Hp} {b : Nat} {o : AObj} : (h.upd b o).objs.get b = some o := get_same
theorem roundEnd_ret {B : Nat} {fr : Fr} {h : Hp} {x : ALoop} {v : SV} (hB : h.objs.get B = some (.loop x)) : roundEnd B ⟨.ret, fr, h, v⟩ = some [⟨.ret, fr, h.upd B (.loop { x with state := .done, pending := some .ret }), bV false⟩] := by
 simp only [roundEnd, endRoundE, hB]
 rfl
theorem put_two {tm : T SV} {n a b : Nat} {x y : SV} (ha : Nat.blt a n = true) (hb : Nat.blt b n = true) : setAll [(a, x), (b, y)] ⟨tm, n, []⟩ = some ⟨(tm.set a x).set b y, n, []⟩ := by
 simp only [setAll, Fr.put, ha, hb, cond_true]
theorem range_walk {Γ : Glob} {ms : List Nat} {tm : T SV} {n g pa pb C : Nat} {A h : Hp} {p0 : SV} {tt : Tr} {asg body : Code} {Φ : Out → Prop} (I : Nat → Hp → Prop) (Q : Hp → Prop) (trd : T SV → SV × Int → T SV)
  (hsz : tt.size ≤ 1900000) (ha : Nat.blt pa n = true) (hb : Nat.blt pb n = true) (hg : Fr.ev ⟨tm, n, ms⟩ (.tmp g) = .func (.func 173) [] [.ptr C 0]) (hC : At h C (.cells [p0] 219)) (hT : TreeAt Γ A p0 tt)
  (hIK : ∀ k H, I k H → Kept A.next A H) (hI : ∀ k h1 h2, I k h1 → Kept h.next h1 h2 → I k h2) (hQ : ∀ h1 h2, Q h1 → Kept h.next h1 h2 → Q h2) (h0 : I 0 h)
  (hasg : ∀ p h', Runs Tryz.prog Γ (.code asg (some (h.next + 1)) ⟨(tm.set pa p.1).set pb (iV p.2), n, []⟩ h') fun o => ∃ v0, o = ⟨.normal, ⟨trd tm p, n, []⟩, h', v0⟩)
  (hbody : ∀ k t d q h', (preT tt 1)[k]? = some (t, d) → TreeAt Γ A q t → h.next + 2 ≤ h'.next → I k h' → Runs Tryz.prog Γ (.code body (some (h.next + 1)) ⟨trd tm (q, d), n, []⟩ h') fun o => ((∃ fr v0 H, o = ⟨.normal, fr, H, v0⟩ ∧ I (k + 1) H) ∨ (∃ fr v0 H, o = ⟨.ret, fr, H, v0⟩ ∧ Q H)) ∧ h'.next ≤ o.hp.next ∧ ∀ c, h.next ≤ c → c < h'.next → o.hp.objs.get c = h'.objs.get c)
  (k1 : ∀ h' v0, I (preT tt 1).length h' → At h' h.next (.deferred true) → Φ ⟨.normal, ⟨tm, n, h.next :: ms⟩, h', v0⟩) (k2 : ∀ h' v0, Q h' → At h' h.next (.deferred true) → Φ ⟨.ret, ⟨tm, n, h.next :: ms⟩, h', v0⟩) :
  Runs Tryz.prog Γ (.code (.rangeFunc (.tmp g) #[pa, pb] asg body) none ⟨tm, n, ms⟩ h) Φ := by
 refine runs_range (f := 173) (args := [.yield (h.next + 1), .ptr C 0]) (by rw [hg]; rfl) ?_
 generalize hx : (⟨.ready, none, 0, tm, n, #[pa, pb], asg, body, h.next⟩ : ALoop) = x
 have hx1 : x.state = .ready := by rw [← hx]
 have hx2 : x.pending = none := by rw [← hx]
 have hxe : ({ { x with state := .busy } with state := .ready, pending := none } : ALoop) = x := by rw [← hx]
 generalize hh2 : (⟨(h.objs.set h.next (.deferred true)).set (h.next + 1) (.loop x), h.next + 2⟩ : Hp) = h2
 have hn2 : h2.next = h.next + 2 := by rw [← hh2]
 have hk2 : Kept h.next h h2 := ⟨by omega, fun b hb => by rw [← hh2]; exact (get_ne (by omega)).trans (get_ne (by omega))⟩
 have hB2 : At h2 (h.next + 1) (.loop x) := ⟨by omega, by rw [← hh2]; exact get_same⟩
 have hD2 : At h2 h.next (.deferred true) := ⟨by omega, by rw [← hh2]; exact (get_ne (by omega)).trans get_same⟩
 refine (walk1_runs Γ A (h.next + 1) C p0 tt (fun k h' => I k h' ∧ At h' (h.next + 1) (.loop x) ∧ At h' h.next (.deferred true)) (fun h' => Q h' ∧ At h' (h.next + 1) (.loop { x with state := .done, pending := some .ret }) ∧ At h' h.next (.deferred true)) h2 (hC.kept hk2) hT hsz (fun k H w => hIK k H w.1) (fun k h1 h3 w hk => ⟨hI k h1 h3 w.1 (hk.less hk2.next), w.2.1.keptLo hk hB2.lt, w.2.2.keptLo hk hD2.lt⟩) (fun h1 h3 w hk => ⟨hQ h1 h3 w.1 (hk.less hk2.next), w.2.1.keptLo hk hB2.lt, w.2.2.keptLo hk hD2.lt⟩) ?_ ⟨hI 0 h h2 h0 hk2, hB2, hD2⟩).mono ?_
 intro k t d q h' hp hq hlo ⟨j1, j2, j3⟩
 have hnb : Nat.beq [q, SV.lit (.int .i64 d)].length x.params.size = true := by rw [← hx]; rfl
 refine runs_round (fr := ⟨(tm.set pa q).set pb (iV d), n, []⟩) j2.get hnb (by rw [← hx]; exact put_two ha hb) ?_
 have hxa : x.assign = asg := by rw [← hx]
 have hxb : x.body = body := by rw [← hx]
 have hasg := hasg (q, d) h'
 rw [← hxa] at hasg
 have hbody := fun h3 => hbody k t d q h3 hp hq
 rw [← hxb] at hbody
 refine hasg.mono ?_
 rintro o ⟨v0, rfl⟩
 refine ⟨x, rfl, j2.get, hx1, ?_⟩
 generalize hh3 : h'.upd (h.next + 1) (.loop { x with state := .busy }) = h3
 have hn3 : h3.next = h'.next := by rw [← hh3]; rfl
 have hg3 : ∀ c, c ≠ h.next + 1 → h3.objs.get c = h'.objs.get c := fun c hc => by rw [← hh3]; exact get_ne hc
 have hB3 : h3.objs.get (h.next + 1) = some (.loop { x with state := .busy }) := by rw [← hh3]; exact get_same
 refine (hbody h3 (by omega) (hI k h' h3 j1 ⟨by omega, fun c hc => hg3 c (by omega)⟩)).mono ?_
 rintro o ⟨hcase, hn, hold⟩
 have hB4 : o.hp.objs.get (h.next + 1) = some (.loop { x with state := .busy }) := (hold _ (by omega) (by omega)).trans hB3
 have hD4 : o.hp.objs.get h.next = some (.deferred true) := (hold _ (by omega) (by omega)).trans ((hg3 _ (by omega)).trans j3.get)
 rcases hcase with ⟨fr, v1, H, rfl, i1⟩ | ⟨fr, v1, H, rfl, i1⟩
 refine ⟨_, roundEnd_normal hB4, .inl ⟨rfl, hI _ _ _ i1 ⟨Nat.le_refl _, fun c hc => get_ne (by omega)⟩, ⟨by show h.next + 1 < H.next; have : h3.next ≤ H.next := hn; omega, ?_⟩, ⟨by show h.next < H.next; have : h3.next ≤ H.next := hn; omega, (get_ne (by omega)).trans hD4⟩⟩, by show h'.next ≤ H.next; have : h3.next ≤ H.next := hn; omega, fun c hc1 hc2 => ?_⟩
 rw [hxe]; exact get_same
 refine (get_ne (by omega)).trans ((hold c (by omega) (by omega)).trans (hg3 c (by omega)))
 refine ⟨_, roundEnd_ret hB4, .inr ⟨rfl, hQ _ _ i1 ⟨Nat.le_refl _, fun c hc => get_ne (by omega)⟩, ⟨by show h.next + 1 < H.next; have : h3.next ≤ H.next := hn; omega, upd_same⟩, ⟨by show h.next < H.next; have : h3.next ≤ H.next := hn; omega, (get_ne (by omega)).trans hD4⟩⟩, by show h'.next ≤ H.next; have : h3.next ≤ H.next := hn; omega, fun c hc1 hc2 => ?_⟩
 refine (get_ne (by omega)).trans ((hold c (by omega) (by omega)).trans (hg3 c (by omega)))
 rintro ⟨ex, fr, h3, v3⟩ hcase
 rcases hcase with ⟨i1, i2, i3⟩ | ⟨i1, i2, i3⟩
 have i2 : At h3 (h.next + 1) (.loop x) := i2
 have i3 : At h3 h.next (.deferred true) := i3
 refine ⟨⟨.normal, ⟨tm, n, h.next :: ms⟩, h3.upd (h.next + 1) (.loop { x with state := .exhausted }), .lit undef⟩, ?_, k1 _ _ (hI _ _ _ i1 ⟨Nat.le_refl _, fun c hc => get_ne (by omega)⟩) ⟨i3.lt, (get_ne (by omega)).trans i3.get⟩⟩
 simp only [loopEnd, i2.get, hx1, hx2]
 have i2 : At h3 (h.next + 1) (.loop { x with state := .done, pending := some .ret }) := i2
 have i3 : At h3 h.next (.deferred true) := i3
 refine ⟨⟨.ret, ⟨tm, n, h.next :: ms⟩, h3.upd (h.next + 1) (.loop { { x with state := .done, pending := some .ret } with state := .exhausted }), .lit undef⟩, ?_, k2 _ _ (hQ _ _ i1 ⟨Nat.le_refl _, fun c hc => get_ne (by omega)⟩) ⟨i3.lt, (get_ne (by omega)).trans i3.get⟩⟩
 simp only [loopEnd, i2.get]
end Go.Proofs.YtcnfmcbmephdfaaGreatDoor.d
