/-
  'counterpaneref34.Add'; by the author's gen_snap.py, in the calculus of runs.
-/
import Derived.Test.YtjilmneaeocimaaGreatDoorSpGQ
namespace Go.Proofs.YtjilmneaeocimaaGreatDoor.snap
open Go Go.Proofs.YtjilmneaeocimaaGreatDoor.Ev

noncomputable def raLoop : Code := (inBlk (seqR (seqL (seqR (seqR (seqR (seqR (bodyOf Tryz.f17))))))))
noncomputable def raB : Code := (inBlk (seqL (seqR (inLoop raLoop))))
noncomputable def raOps8 : Array Oper := opsOf (seqL (seqL raB))
noncomputable def raOps9 : Array Oper := opsOf (seqL (seqL (seqR raB)))
/-- What is built so far, and whether the new one is in it: a step. -/
def bstep (p : Int × Int) (s : List (Int × Int) × Bool) (x : Int × Int) : List (Int × Int) × Bool := if x.1 = p.1 then s else if !s.2 && decide (p.1 < x.1) then ((s.1 ++ [p]) ++ [x], true) else (s.1 ++ [x], s.2)
def build (p : Int × Int) (r : List (Int × Int)) : List (Int × Int) × Bool := r.foldl (bstep p) ([], false)
theorem build_is (p : Int × Int) : ∀ (n : Nat) (r : List (Int × Int)), r.length = n → Asc r → (build p r).2 = (r.any fun x => decide (p.1 < x.1)) ∧ (build p r).1 = if (r.any fun x => decide (p.1 < x.1)) then insR r p else r.filter fun x => decide (x.1 < p.1)
  | 0, r, hr, _ => by
    obtain rfl : r = [] := List.eq_nil_of_length_eq_zero hr
    exact ⟨rfl, rfl⟩
  | n + 1, r, hr, ha => by
    have hne : r ≠ [] := by intro e; rw [e] at hr; cases hr
    obtain ⟨r', x, rfl⟩ : ∃ r' x, r = r' ++ [x] := ⟨r.dropLast, r.getLast hne, (List.dropLast_concat_getLast hne).symm⟩
    have ha' : Asc r' := (List.pairwise_append.1 ha).1
    have hx : ∀ y ∈ r', y.1 < x.1 := fun y hy => (List.pairwise_append.1 ha).2.2 y hy x (List.mem_singleton_self _)
    obtain ⟨h1, h2⟩ := build_is p n r' (by rw [List.length_append] at hr; simpa using hr) ha'
    have hb : build p (r' ++ [x]) = bstep p (build p r') x := by rw [build, List.foldl_append]; rfl
    rw [hb, List.any_append]
    by_cases hy : (r'.any fun x => decide (p.1 < x.1)) = true
    · obtain ⟨y, hym, hyp⟩ := List.any_eq_true.1 hy
      have hyp : p.1 < y.1 := by simpa using hyp
      have hpx : p.1 < x.1 := Int.lt_trans hyp (hx y hym)
      rw [if_pos hy] at h2
      have hs : bstep p (build p r') x = ((build p r').1 ++ [x], (build p r').2) := by
        rw [bstep, if_neg (by omega), h1, hy]
        rfl
      rw [hs, h1, hy, h2, Bool.true_or, if_pos rfl]
      refine ⟨rfl, ?_⟩
      simp only [insR, List.filter_append, List.filter_cons, List.filter_nil]
      rw [if_neg (by simp; omega), if_pos (by simpa using hpx)]
      simp
    · have hy' : (r'.any fun x => decide (p.1 < x.1)) = false := by simpa using hy
      have hall : ∀ y ∈ r', ¬ p.1 < y.1 := fun y hym h => hy (List.any_eq_true.2 ⟨y, hym, by simpa using h⟩)
      rw [if_neg hy] at h2
      have hg : (r'.filter fun x => decide (p.1 < x.1)) = [] := by
        rw [List.filter_eq_nil_iff]
        intro y hym
        simpa using hall y hym
      rw [hy', Bool.false_or]
      by_cases e : x.1 = p.1
      · have hs : bstep p (build p r') x = build p r' := by rw [bstep, if_pos e]
        rw [hs, h1, hy', h2]
        have : ([x].any fun x => decide (p.1 < x.1)) = false := by simp [e]
        rw [this]
        refine ⟨rfl, ?_⟩
        simp [List.filter_append, e]
      · by_cases hpx : p.1 < x.1
        · have hs : bstep p (build p r') x = (((build p r').1 ++ [p]) ++ [x], true) := by
            rw [bstep, if_neg e, h1, hy', if_pos (by simpa using hpx)]
          have : ([x].any fun x => decide (p.1 < x.1)) = true := by simp [hpx]
          rw [hs, h2, this, if_pos rfl]
          refine ⟨rfl, ?_⟩
          simp only [insR, List.filter_append, hg, List.filter_cons, List.filter_nil]
          rw [if_neg (by simp; omega), if_pos (by simpa using hpx)]
          simp
        · have hs : bstep p (build p r') x = ((build p r').1 ++ [x], (build p r').2) := by
            rw [bstep, if_neg e, if_neg (by simp [hpx])]
          have : ([x].any fun x => decide (p.1 < x.1)) = false := by simp [hpx]
          rw [hs, h1, hy', h2, this]
          refine ⟨rfl, ?_⟩
          rw [if_neg (by decide), List.filter_append, List.filter_cons]
          rw [if_pos (by simp; omega)]
          simp
theorem build_ins {p : Int × Int} {r : List (Int × Int)} (ha : Asc r) : (bif (build p r).2 then (build p r).1 else (build p r).1 ++ [p]) = insR r p := by
  obtain ⟨h1, h2⟩ := build_is p r.length r rfl ha
  rw [h1, h2]
  cases hy : (r.any fun x => decide (p.1 < x.1)) with
  | true => rfl
  | false =>
    have hall : ∀ y ∈ r, ¬ p.1 < y.1 := fun y hym h => by
      have : (r.any fun x => decide (p.1 < x.1)) = true := List.any_eq_true.2 ⟨y, hym, by simpa using h⟩
      rw [hy] at this
      cases this
    have hg : (r.filter fun x => decide (p.1 < x.1)) = [] := by
      rw [List.filter_eq_nil_iff]
      intro y hym
      simpa using hall y hym
    rw [cond_false, if_neg (by decide), insR, hg]
theorem build_len (p : Int × Int) (r : List (Int × Int)) : (build p r).1.length ≤ 2 * r.length := by
  suffices h : ∀ (r : List (Int × Int)) (s : List (Int × Int) × Bool), (r.foldl (bstep p) s).1.length ≤ s.1.length + 2 * r.length by
    have := h r ([], false)
    simpa [build] using this
  intro r
  induction r with
  | nil => intro s; simp
  | cons x r ih =>
    intro s
    rw [List.foldl_cons]
    have h1 := ih (bstep p s x)
    have h2 : (bstep p s x).1.length ≤ s.1.length + 2 := by
      unfold bstep
      split
      · omega
      · split <;> simp
    rw [List.length_cons]
    omega
set_option maxHeartbeats 8000000 in
set_option maxRecDepth 20000 in
theorem ra_body (Γ : Glob) (B lo : Nat) (a n : Int) (r : List (Int × Int)) (s : List (Int × Int) × Bool) (v : SV) (lo0 k : Nat) (x : Int × Int) (tm : T SV) (h : Hp) (o : SV) (e0 : Fr.ev ⟨tm, 63, []⟩ (.tmp 0) = v) (e3 : Fr.ev ⟨tm, 63, []⟩ (.tmp 3) = .ptr B 0) (e6 : Fr.ev ⟨tm, 63, []⟩ (.tmp 6) = o) (e7 : Fr.ev ⟨tm, 63, []⟩ (.tmp 7) = .lit (.bool s.2)) (e8 : Fr.ev ⟨tm, 63, []⟩ (.tmp 8) = .lit (.int .i64 (Int.ofNat k))) (hB : At h B (.cells [.lit (.int .i64 a), .lit (.int .i64 n)] 44)) (hBl : B < lo) (hr : IdR h lo0 v r) (hrl : ∀ bl, v = .row bl 0 r.length r.length bl → bl < lo) (hx : r[k]? = some x) (hrow : IdR h lo o s.1) (hlen : s.1.length ≤ 1000000) (hlen2 : (s.1 ++ [(a, n)]).length ≤ 1000000) (hlo : lo ≤ h.next) :
    Runs Tryz.prog Γ (.code raB none ⟨tm, 63, []⟩ h) fun out => ∃ ex tm' h' v0, out = ⟨ex, ⟨tm', 63, []⟩, h', v0⟩ ∧ (ex = .normal ∨ ex = .exit 1) ∧ (∀ t ∈ [0, 3, 8], Fr.ev ⟨tm', 63, []⟩ (.tmp t) = Fr.ev ⟨tm, 63, []⟩ (.tmp t)) ∧ (∃ o', Fr.ev ⟨tm', 63, []⟩ (.tmp 6) = o' ∧ IdR h' lo o' (bstep (a, n) s x).1) ∧ Fr.ev ⟨tm', 63, []⟩ (.tmp 7) = .lit (.bool (bstep (a, n) s x).2) ∧ Kept lo h h' := by
  have hkl : k < r.length := (List.getElem?_eq_some_iff.1 hx).1
  obtain ⟨bl, hv, hbl⟩ := hr.at hx
  have hbll := hrl bl hv
  obtain ⟨hcA, hc0, hc1⟩ := flat_cut r k x hx
  by_cases hxa : x.1 = a
  · have hs : bstep (a, n) s x = s := if_pos hxa
    rw [hs]
    refine runs_seq ?_
    refine runs_seq ?_
    refine runs_drawn (ops := raOps8) rfl ?_
    refine drawn_end (m' := 255) (held' := [⟨descOf 6 raOps8.toList 0 0, [.cells B 0 [.lit (.int .i64 a)]], none⟩, ⟨descOf 4 raOps8.toList 0 0, [.cells bl (k * 2 + 0) [.lit (.int .i64 x.1)]], none⟩]) (hp' := h) (by
      refine take_q (v := v) rfl rfl rfl (by simp only [quiet, e0] <;> rfl) rfl rfl ?_
      refine take_q (v := .lit (.int .i64 (Int.ofNat k))) rfl rfl rfl (by simp only [quiet, ev_set, e8] <;> rfl) rfl rfl ?_
      refine take_q (v := .ptr bl (k * 2)) rfl rfl rfl (by simp only [quiet, ev_set, hv]; exact congrArg one (idIdx hkl)) rfl rfl ?_
      refine take_q (v := .ptr bl (k * 2 + 0)) rfl rfl rfl rfl rfl rfl ?_
      refine take_f (v := .lit (.int .i64 x.1)) (fact := .cells bl (k * 2 + 0) [.lit (.int .i64 x.1)]) rfl rfl rfl (by simp only [quiet, ev_set]; exact load_rowc hbl.get hc0) rfl rfl ?_
      refine take_q (v := .ptr B 0) rfl rfl rfl (by simp only [quiet, ev_set, e3] <;> rfl) rfl rfl ?_
      refine take_f (v := .lit (.int .i64 a)) (fact := .cells B 0 [.lit (.int .i64 a)]) rfl rfl rfl (by simp only [quiet, ev_set]; exact load_cell rfl hB.get rfl) rfl rfl ?_
      refine take_q (v := .lit (.bool true)) rfl rfl rfl (by simp only [quiet, ev_set]; exact congrArg one (eqlT hxa)) rfl rfl ?_
      rfl) (by rfl) (by rfl) ?_
    refine runs_cond true rfl ?_
    refine runs_exit ?_
    exact ⟨_, _, _, _, rfl, .inr rfl, (slots3 (by simp only [ev_set] <;> rfl) (by simp only [ev_set] <;> rfl) (by simp only [ev_set] <;> rfl)), ⟨o, by simp only [ev_set]; exact e6, hrow⟩, by simp only [ev_set]; exact e7, Kept.refl _ _⟩
  cases hd : s.2 with
  | true =>
    have hs : bstep (a, n) s x = (s.1 ++ [x], s.2) := by rw [bstep, if_neg hxa, hd]; rfl
    rw [hs]
    rw [hd] at e7
    refine runs_seq ?_
    refine runs_seq ?_
    refine runs_drawn (ops := raOps8) rfl ?_
    refine drawn_end (m' := 255) (held' := [⟨descOf 6 raOps8.toList 0 0, [.cells B 0 [.lit (.int .i64 a)]], none⟩, ⟨descOf 4 raOps8.toList 0 0, [.cells bl (k * 2 + 0) [.lit (.int .i64 x.1)]], none⟩]) (hp' := h) (by
      refine take_q (v := v) rfl rfl rfl (by simp only [quiet, e0] <;> rfl) rfl rfl ?_
      refine take_q (v := .lit (.int .i64 (Int.ofNat k))) rfl rfl rfl (by simp only [quiet, ev_set, e8] <;> rfl) rfl rfl ?_
      refine take_q (v := .ptr bl (k * 2)) rfl rfl rfl (by simp only [quiet, ev_set, hv]; exact congrArg one (idIdx hkl)) rfl rfl ?_
      refine take_q (v := .ptr bl (k * 2 + 0)) rfl rfl rfl rfl rfl rfl ?_
      refine take_f (v := .lit (.int .i64 x.1)) (fact := .cells bl (k * 2 + 0) [.lit (.int .i64 x.1)]) rfl rfl rfl (by simp only [quiet, ev_set]; exact load_rowc hbl.get hc0) rfl rfl ?_
      refine take_q (v := .ptr B 0) rfl rfl rfl (by simp only [quiet, ev_set, e3] <;> rfl) rfl rfl ?_
      refine take_f (v := .lit (.int .i64 a)) (fact := .cells B 0 [.lit (.int .i64 a)]) rfl rfl rfl (by simp only [quiet, ev_set]; exact load_cell rfl hB.get rfl) rfl rfl ?_
      refine take_q (v := .lit (.bool false)) rfl rfl rfl (by simp only [quiet, ev_set]; exact congrArg one (eqlF hxa)) rfl rfl ?_
      rfl) (by rfl) (by rfl) ?_
    refine runs_cond false rfl ?_
    refine runs_skip ?_
    refine runs_seq ?_
    refine runs_seq ?_
    refine runs_drawn (ops := raOps9) rfl ?_
    refine drawn_end (m' := 4095) (held' := []) (hp' := h) (by
      refine take_q (v := .lit (.bool true)) rfl rfl rfl (by simp only [quiet, ev_set, e7] <;> rfl) rfl rfl ?_
      refine take_q (v := .lit (.bool false)) rfl rfl rfl rfl rfl rfl ?_
      refine take_q (v := .lit (.bool false)) rfl rfl rfl rfl rfl rfl ?_
      refine take_unwanted rfl rfl rfl rfl ?_
      refine take_unwanted rfl rfl rfl rfl ?_
      refine take_unwanted rfl rfl rfl rfl ?_
      refine take_unwanted rfl rfl rfl rfl ?_
      refine take_unwanted rfl rfl rfl rfl ?_
      refine take_unwanted rfl rfl rfl rfl ?_
      refine take_unwanted rfl rfl rfl rfl ?_
      refine take_unwanted rfl rfl rfl rfl ?_
      refine take_q (v := .lit (.bool false)) rfl rfl rfl rfl rfl rfl ?_
      rfl) (by rfl) (by rfl) ?_
    refine runs_cond false rfl ?_
    refine runs_skip ?_
    refine runs_region ?_
    refine ops_q (v := o) (fs := []) rfl (by simp only [quiet, ev_set, e6] <;> rfl) rfl rfl ?_
    refine ops_q (v := v) (fs := []) rfl (by simp only [quiet, ev_set, e0] <;> rfl) rfl rfl ?_
    refine ops_q (v := .lit (.int .i64 (Int.ofNat k))) (fs := []) rfl (by simp only [quiet, ev_set, e8] <;> rfl) rfl rfl ?_
    refine ops_q (v := .ptr bl (k * 2)) (fs := []) rfl (by simp only [quiet, ev_set, hv]; exact congrArg one (idIdx hkl)) rfl rfl ?_
    refine ops_q (v := .agg (idC x)) (fs := [.cells bl (k * 2) (idC x)]) rfl (by simp only [quiet, ev_set]; exact load_rowA rfl rfl hbl.get hcA) rfl rfl ?_
    refine ops_app (p := x) (r := s.1) (lo := lo) (v := o) rfl rfl (by simp only [ev_set] <;> rfl) rfl rfl rfl rfl (by simp only [ev_set] <;> rfl) (by simp only [ev_set] <;> rfl) rfl rfl hrow hlen hlo (fun w1 H1 c1 n1 k1 => ?_)
    have n1 : H1.next = h.next + 2 := n1
    have kk1 : Kept lo h H1 := ⟨by omega, k1⟩
    have hB_1 := hB.keptLo kk1 hBl
    have hbl_1 := hbl.keptLo kk1 hbll
    refine ops_q (v := w1) (fs := []) rfl rfl rfl rfl ?_
    refine ops_nil ?_
    exact ⟨_, _, _, _, rfl, .inl rfl, (slots3 (by simp only [ev_set] <;> rfl) (by simp only [ev_set] <;> rfl) (by simp only [ev_set] <;> rfl)), ⟨w1, by simp only [ev_set] <;> rfl, c1⟩, by simp only [ev_set]; rw [hd]; exact e7, kk1⟩
  | false =>
    rw [hd] at e7
    by_cases hgt : a < x.1
    · have hs : bstep (a, n) s x = ((s.1 ++ [(a, n)]) ++ [x], true) := by rw [bstep, if_neg hxa, hd, if_pos (by simpa using hgt)]
      rw [hs]
      refine runs_seq ?_
      refine runs_seq ?_
      refine runs_drawn (ops := raOps8) rfl ?_
      refine drawn_end (m' := 255) (held' := [⟨descOf 6 raOps8.toList 0 0, [.cells B 0 [.lit (.int .i64 a)]], none⟩, ⟨descOf 4 raOps8.toList 0 0, [.cells bl (k * 2 + 0) [.lit (.int .i64 x.1)]], none⟩]) (hp' := h) (by
        refine take_q (v := v) rfl rfl rfl (by simp only [quiet, e0] <;> rfl) rfl rfl ?_
        refine take_q (v := .lit (.int .i64 (Int.ofNat k))) rfl rfl rfl (by simp only [quiet, ev_set, e8] <;> rfl) rfl rfl ?_
        refine take_q (v := .ptr bl (k * 2)) rfl rfl rfl (by simp only [quiet, ev_set, hv]; exact congrArg one (idIdx hkl)) rfl rfl ?_
        refine take_q (v := .ptr bl (k * 2 + 0)) rfl rfl rfl rfl rfl rfl ?_
        refine take_f (v := .lit (.int .i64 x.1)) (fact := .cells bl (k * 2 + 0) [.lit (.int .i64 x.1)]) rfl rfl rfl (by simp only [quiet, ev_set]; exact load_rowc hbl.get hc0) rfl rfl ?_
        refine take_q (v := .ptr B 0) rfl rfl rfl (by simp only [quiet, ev_set, e3] <;> rfl) rfl rfl ?_
        refine take_f (v := .lit (.int .i64 a)) (fact := .cells B 0 [.lit (.int .i64 a)]) rfl rfl rfl (by simp only [quiet, ev_set]; exact load_cell rfl hB.get rfl) rfl rfl ?_
        refine take_q (v := .lit (.bool false)) rfl rfl rfl (by simp only [quiet, ev_set]; exact congrArg one (eqlF hxa)) rfl rfl ?_
        rfl) (by rfl) (by rfl) ?_
      refine runs_cond false rfl ?_
      refine runs_skip ?_
      refine runs_seq ?_
      refine runs_seq ?_
      refine runs_drawn (ops := raOps9) rfl ?_
      refine drawn_end (m' := 4095) (held' := [⟨descOf 9 raOps9.toList 0 0, [.cells B 0 [.lit (.int .i64 a)]], none⟩, ⟨descOf 7 raOps9.toList 0 0, [.cells bl (k * 2 + 0) [.lit (.int .i64 x.1)]], none⟩]) (hp' := h) (by
        refine take_q (v := .lit (.bool false)) rfl rfl rfl (by simp only [quiet, ev_set, e7] <;> rfl) rfl rfl ?_
        refine take_q (v := .lit (.bool true)) rfl rfl rfl rfl rfl rfl ?_
        refine take_q (v := .lit (.bool true)) rfl rfl rfl rfl rfl rfl ?_
        refine take_q (v := v) rfl rfl rfl (by simp only [quiet, ev_set, e0] <;> rfl) rfl rfl ?_
        refine take_q (v := .lit (.int .i64 (Int.ofNat k))) rfl rfl rfl (by simp only [quiet, ev_set, e8] <;> rfl) rfl rfl ?_
        refine take_q (v := .ptr bl (k * 2)) rfl rfl rfl (by simp only [quiet, ev_set, hv]; exact congrArg one (idIdx hkl)) rfl rfl ?_
        refine take_q (v := .ptr bl (k * 2 + 0)) rfl rfl rfl rfl rfl rfl ?_
        refine take_f (v := .lit (.int .i64 x.1)) (fact := .cells bl (k * 2 + 0) [.lit (.int .i64 x.1)]) rfl rfl rfl (by simp only [quiet, ev_set]; exact load_rowc hbl.get hc0) rfl rfl ?_
        refine take_q (v := .ptr B 0) rfl rfl rfl (by simp only [quiet, ev_set, e3] <;> rfl) rfl rfl ?_
        refine take_f (v := .lit (.int .i64 a)) (fact := .cells B 0 [.lit (.int .i64 a)]) rfl rfl rfl (by simp only [quiet, ev_set]; exact load_cell rfl hB.get rfl) rfl rfl ?_
        refine take_q (v := .lit (.bool true)) rfl rfl rfl (by simp only [quiet, ev_set]; exact congrArg one (gtrT hgt)) rfl rfl ?_
        refine take_q (v := .lit (.bool true)) rfl rfl rfl rfl rfl rfl ?_
        rfl) (by rfl) (by rfl) ?_
      refine runs_cond true rfl ?_
      refine runs_seq ?_
      refine runs_region ?_
      refine ops_q (v := o) (fs := []) rfl (by simp only [quiet, ev_set, e6] <;> rfl) rfl rfl ?_
      refine ops_q (v := .agg [.lit (.int .i64 a), .lit (.int .i64 n)]) (fs := [.cells B 0 [.lit (.int .i64 a), .lit (.int .i64 n)]]) rfl (by simp only [quiet, ev_set, e3]; exact load_cut rfl rfl hB.get rfl) rfl rfl ?_
      refine ops_app (p := (a, n)) (r := s.1) (lo := lo) (v := o) rfl rfl (by simp only [ev_set] <;> rfl) rfl rfl rfl rfl (by simp only [ev_set] <;> rfl) (by simp only [ev_set] <;> rfl) rfl rfl hrow hlen hlo (fun w1 H1 c1 n1 k1 => ?_)
      have n1 : H1.next = h.next + 2 := n1
      have kk1 : Kept lo h H1 := ⟨by omega, k1⟩
      have hB_1 := hB.keptLo kk1 hBl
      have hbl_1 := hbl.keptLo kk1 hbll
      refine ops_q (v := w1) (fs := []) rfl rfl rfl rfl ?_
      refine ops_nil ?_
      refine runs_region ?_
      refine ops_q (v := .lit (.bool true)) (fs := []) rfl rfl rfl rfl ?_
      refine ops_nil ?_
      refine runs_region ?_
      refine ops_q (v := w1) (fs := []) rfl rfl rfl rfl ?_
      refine ops_q (v := v) (fs := []) rfl (by simp only [quiet, ev_set, e0] <;> rfl) rfl rfl ?_
      refine ops_q (v := .lit (.int .i64 (Int.ofNat k))) (fs := []) rfl (by simp only [quiet, ev_set, e8] <;> rfl) rfl rfl ?_
      refine ops_q (v := .ptr bl (k * 2)) (fs := []) rfl (by simp only [quiet, ev_set, hv]; exact congrArg one (idIdx hkl)) rfl rfl ?_
      refine ops_q (v := .agg (idC x)) (fs := [.cells bl (k * 2) (idC x)]) rfl (by simp only [quiet, ev_set]; exact load_rowA rfl rfl hbl_1.get hcA) rfl rfl ?_
      refine ops_app (p := x) (r := s.1 ++ [(a, n)]) (lo := lo) (v := w1) rfl rfl (by simp only [ev_set] <;> rfl) rfl rfl rfl rfl (by simp only [ev_set] <;> rfl) (by simp only [ev_set] <;> rfl) rfl rfl c1 hlen2 (show lo ≤ H1.next from by omega) (fun w2 H2 c2 n2 k2 => ?_)
      have n2 : H2.next = H1.next + 2 := n2
      have kk2 : Kept lo H1 H2 := ⟨by omega, k2⟩
      have hB_2 := hB_1.keptLo kk2 hBl
      have hbl_2 := hbl_1.keptLo kk2 hbll
      refine ops_q (v := w2) (fs := []) rfl rfl rfl rfl ?_
      refine ops_nil ?_
      exact ⟨_, _, _, _, rfl, .inl rfl, (slots3 (by simp only [ev_set] <;> rfl) (by simp only [ev_set] <;> rfl) (by simp only [ev_set] <;> rfl)), ⟨w2, by simp only [ev_set] <;> rfl, c2⟩, by simp only [ev_set] <;> rfl, kk1.trans kk2⟩
    · have hs : bstep (a, n) s x = (s.1 ++ [x], s.2) := by rw [bstep, if_neg hxa, if_neg (by simp [hgt])]
      rw [hs]
      refine runs_seq ?_
      refine runs_seq ?_
      refine runs_drawn (ops := raOps8) rfl ?_
      refine drawn_end (m' := 255) (held' := [⟨descOf 6 raOps8.toList 0 0, [.cells B 0 [.lit (.int .i64 a)]], none⟩, ⟨descOf 4 raOps8.toList 0 0, [.cells bl (k * 2 + 0) [.lit (.int .i64 x.1)]], none⟩]) (hp' := h) (by
        refine take_q (v := v) rfl rfl rfl (by simp only [quiet, e0] <;> rfl) rfl rfl ?_
        refine take_q (v := .lit (.int .i64 (Int.ofNat k))) rfl rfl rfl (by simp only [quiet, ev_set, e8] <;> rfl) rfl rfl ?_
        refine take_q (v := .ptr bl (k * 2)) rfl rfl rfl (by simp only [quiet, ev_set, hv]; exact congrArg one (idIdx hkl)) rfl rfl ?_
        refine take_q (v := .ptr bl (k * 2 + 0)) rfl rfl rfl rfl rfl rfl ?_
        refine take_f (v := .lit (.int .i64 x.1)) (fact := .cells bl (k * 2 + 0) [.lit (.int .i64 x.1)]) rfl rfl rfl (by simp only [quiet, ev_set]; exact load_rowc hbl.get hc0) rfl rfl ?_
        refine take_q (v := .ptr B 0) rfl rfl rfl (by simp only [quiet, ev_set, e3] <;> rfl) rfl rfl ?_
        refine take_f (v := .lit (.int .i64 a)) (fact := .cells B 0 [.lit (.int .i64 a)]) rfl rfl rfl (by simp only [quiet, ev_set]; exact load_cell rfl hB.get rfl) rfl rfl ?_
        refine take_q (v := .lit (.bool false)) rfl rfl rfl (by simp only [quiet, ev_set]; exact congrArg one (eqlF hxa)) rfl rfl ?_
        rfl) (by rfl) (by rfl) ?_
      refine runs_cond false rfl ?_
      refine runs_skip ?_
      refine runs_seq ?_
      refine runs_seq ?_
      refine runs_drawn (ops := raOps9) rfl ?_
      refine drawn_end (m' := 4095) (held' := [⟨descOf 9 raOps9.toList 0 0, [.cells B 0 [.lit (.int .i64 a)]], none⟩, ⟨descOf 7 raOps9.toList 0 0, [.cells bl (k * 2 + 0) [.lit (.int .i64 x.1)]], none⟩]) (hp' := h) (by
        refine take_q (v := .lit (.bool false)) rfl rfl rfl (by simp only [quiet, ev_set, e7] <;> rfl) rfl rfl ?_
        refine take_q (v := .lit (.bool true)) rfl rfl rfl rfl rfl rfl ?_
        refine take_q (v := .lit (.bool true)) rfl rfl rfl rfl rfl rfl ?_
        refine take_q (v := v) rfl rfl rfl (by simp only [quiet, ev_set, e0] <;> rfl) rfl rfl ?_
        refine take_q (v := .lit (.int .i64 (Int.ofNat k))) rfl rfl rfl (by simp only [quiet, ev_set, e8] <;> rfl) rfl rfl ?_
        refine take_q (v := .ptr bl (k * 2)) rfl rfl rfl (by simp only [quiet, ev_set, hv]; exact congrArg one (idIdx hkl)) rfl rfl ?_
        refine take_q (v := .ptr bl (k * 2 + 0)) rfl rfl rfl rfl rfl rfl ?_
        refine take_f (v := .lit (.int .i64 x.1)) (fact := .cells bl (k * 2 + 0) [.lit (.int .i64 x.1)]) rfl rfl rfl (by simp only [quiet, ev_set]; exact load_rowc hbl.get hc0) rfl rfl ?_
        refine take_q (v := .ptr B 0) rfl rfl rfl (by simp only [quiet, ev_set, e3] <;> rfl) rfl rfl ?_
        refine take_f (v := .lit (.int .i64 a)) (fact := .cells B 0 [.lit (.int .i64 a)]) rfl rfl rfl (by simp only [quiet, ev_set]; exact load_cell rfl hB.get rfl) rfl rfl ?_
        refine take_q (v := .lit (.bool false)) rfl rfl rfl (by simp only [quiet, ev_set]; exact congrArg one (gtrF hgt)) rfl rfl ?_
        refine take_q (v := .lit (.bool false)) rfl rfl rfl rfl rfl rfl ?_
        rfl) (by rfl) (by rfl) ?_
      refine runs_cond false rfl ?_
      refine runs_skip ?_
      refine runs_region ?_
      refine ops_q (v := o) (fs := []) rfl (by simp only [quiet, ev_set, e6] <;> rfl) rfl rfl ?_
      refine ops_q (v := v) (fs := []) rfl (by simp only [quiet, ev_set, e0] <;> rfl) rfl rfl ?_
      refine ops_q (v := .lit (.int .i64 (Int.ofNat k))) (fs := []) rfl (by simp only [quiet, ev_set, e8] <;> rfl) rfl rfl ?_
      refine ops_q (v := .ptr bl (k * 2)) (fs := []) rfl (by simp only [quiet, ev_set, hv]; exact congrArg one (idIdx hkl)) rfl rfl ?_
      refine ops_q (v := .agg (idC x)) (fs := [.cells bl (k * 2) (idC x)]) rfl (by simp only [quiet, ev_set]; exact load_rowA rfl rfl hbl.get hcA) rfl rfl ?_
      refine ops_app (p := x) (r := s.1) (lo := lo) (v := o) rfl rfl (by simp only [ev_set] <;> rfl) rfl rfl rfl rfl (by simp only [ev_set] <;> rfl) (by simp only [ev_set] <;> rfl) rfl rfl hrow hlen hlo (fun w1 H1 c1 n1 k1 => ?_)
      have n1 : H1.next = h.next + 2 := n1
      have kk1 : Kept lo h H1 := ⟨by omega, k1⟩
      have hB_1 := hB.keptLo kk1 hBl
      have hbl_1 := hbl.keptLo kk1 hbll
      refine ops_q (v := w1) (fs := []) rfl rfl rfl rfl ?_
      refine ops_nil ?_
      exact ⟨_, _, _, _, rfl, .inl rfl, (slots3 (by simp only [ev_set] <;> rfl) (by simp only [ev_set] <;> rfl) (by simp only [ev_set] <;> rfl)), ⟨w1, by simp only [ev_set] <;> rfl, c1⟩, by simp only [ev_set]; rw [hd]; exact e7, kk1⟩

theorem fold_step {p : Int × Int} {r : List (Int × Int)} {k : Nat} {x : Int × Int} (hx : r[k]? = some x) : build p (r.take (k + 1)) = bstep p (build p (r.take k)) x := by
  rw [take_snoc hx, build, List.foldl_append]
  rfl
set_option maxHeartbeats 8000000 in
set_option maxRecDepth 20000 in
theorem ra_loop (Γ : Glob) (B lo : Nat) (a n : Int) (r : List (Int × Int)) (hr0 : r.length ≤ 1000) (v : SV) (lo0 : Nat) (hBl : B < lo) (hrl : ∀ bl, v = .row bl 0 r.length r.length bl → bl < lo) : ∀ (rem k : Nat), k + rem = r.length → ∀ (tm : T SV) (h : Hp) (o : SV), Fr.ev ⟨tm, 63, []⟩ (.tmp 0) = v → Fr.ev ⟨tm, 63, []⟩ (.tmp 3) = .ptr B 0 → Fr.ev ⟨tm, 63, []⟩ (.tmp 6) = o → Fr.ev ⟨tm, 63, []⟩ (.tmp 7) = .lit (.bool (build (a, n) (r.take k)).2) → Fr.ev ⟨tm, 63, []⟩ (.tmp 8) = .lit (.int .i64 (Int.ofNat k)) → At h B (.cells [.lit (.int .i64 a), .lit (.int .i64 n)] 44) → IdR h lo0 v r → IdR h lo o (build (a, n) (r.take k)).1 → lo ≤ h.next →
    Runs Tryz.prog Γ (.code raLoop none ⟨tm, 63, []⟩ h) fun out => ∃ tm' h' v0 o', out = ⟨.exit 0, ⟨tm', 63, []⟩, h', v0⟩ ∧ Fr.ev ⟨tm', 63, []⟩ (.tmp 3) = .ptr B 0 ∧ Fr.ev ⟨tm', 63, []⟩ (.tmp 6) = o' ∧ Fr.ev ⟨tm', 63, []⟩ (.tmp 7) = .lit (.bool (build (a, n) r).2) ∧ IdR h' lo o' (build (a, n) r).1 ∧ Kept lo h h' := by
  intro rem
  induction rem with
  | zero =>
    intro k hk tm h o e0 e3 e6 e7 e8 hB hr hrow hlo
    obtain rfl : k = r.length := by omega
    rw [List.take_length] at e7 hrow
    refine runs_loop ?_
    refine runs_seq (runs_seq (runs_region ?_))
    refine ops_q (v := .lit (.int .i64 (Int.ofNat r.length))) (fs := []) rfl (by simp only [quiet, e8]) rfl rfl ?_
    refine ops_q (v := v) (fs := []) rfl (by simp only [quiet, ev_set, e0] <;> rfl) rfl rfl ?_
    refine ops_q (v := .lit (.int .i64 (Int.ofNat r.length))) (fs := []) rfl (by simp only [quiet]; exact hr.len _) rfl rfl ?_
    refine ops_q (v := .lit (.bool false)) (fs := []) rfl (by simp only [quiet, ev_set]; exact congrArg one (lssF (Int.lt_irrefl _))) rfl rfl ?_
    refine ops_nil ?_
    refine runs_cond false rfl (runs_exit ?_)
    refine ⟨_, _, _, o, rfl, ?_, ?_, ?_, hrow, Kept.refl _ _⟩
    · simp only [ev_set]; exact e3
    · simp only [ev_set]; exact e6
    · simp only [ev_set]; exact e7
  | succ rem ih =>
    intro k hk tm h o e0 e3 e6 e7 e8 hB hr hrow hlo
    have hkl : k < r.length := by omega
    have hd : r[k]? = some r[k] := List.getElem?_eq_getElem hkl
    have hst := fold_step (p := (a, n)) hd
    generalize r[k] = x at hd hst
    have hbl := build_len (a, n) (r.take k)
    have hb2 : (r.take k).length ≤ 1000 := by rw [List.length_take]; omega
    refine runs_loop ?_
    refine runs_seq (runs_seq (runs_region ?_))
    refine ops_q (v := .lit (.int .i64 (Int.ofNat k))) (fs := []) rfl (by simp only [quiet, e8]) rfl rfl ?_
    refine ops_q (v := v) (fs := []) rfl (by simp only [quiet, ev_set, e0] <;> rfl) rfl rfl ?_
    refine ops_q (v := .lit (.int .i64 (Int.ofNat r.length))) (fs := []) rfl (by simp only [quiet]; exact hr.len _) rfl rfl ?_
    refine ops_q (v := .lit (.bool true)) (fs := []) rfl (by simp only [quiet, ev_set]; exact congrArg one (lssT (Int.ofNat_lt.2 hkl))) rfl rfl ?_
    refine ops_nil ?_
    refine runs_cond true rfl (runs_skip ?_)
    refine runs_seq (runs_block ((ra_body Γ B lo a n r (build (a, n) (r.take k)) v lo0 k x _ h o (by simp only [ev_set]; exact e0) (by simp only [ev_set]; exact e3) (by simp only [ev_set]; exact e6) (by simp only [ev_set]; exact e7) (by simp only [ev_set]; exact e8) hB hBl hr hrl hd hrow (by omega) (by rw [List.length_append]; simp; omega) hlo).mono ?_))
    rintro out ⟨ex, tm', h', v0, rfl, hex, hs, ⟨o', p1, p2⟩, p3, p4⟩
    have hat : atEnd 1 ⟨ex, ⟨tm', 63, []⟩, h', v0⟩ = ⟨.normal, ⟨tm', 63, []⟩, h', v0⟩ := by
      rcases hex with rfl | rfl <;> rfl
    rw [hat]
    have s0 := hs 0 (by decide)
    have s3 := hs 3 (by decide)
    have s8 := hs 8 (by decide)
    simp only [ev_set] at s0 s3 s8
    have s0 : Fr.ev ⟨tm', 63, []⟩ (.tmp 0) = v := s0.trans e0
    have s3 : Fr.ev ⟨tm', 63, []⟩ (.tmp 3) = .ptr B 0 := s3.trans e3
    have s8 : Fr.ev ⟨tm', 63, []⟩ (.tmp 8) = .lit (.int .i64 (Int.ofNat k)) := s8.trans e8
    have hr' : IdR h' lo0 v r := by
      rcases hr with ⟨e, _⟩ | ⟨bl, q1, q2, q3⟩
      · rw [e] at hkl
        cases hkl
      · exact .inr ⟨bl, q1, q2, q3.keptLo p4 (hrl bl q1)⟩
    refine runs_region ?_
    refine ops_q (v := .lit (.int .i64 (Int.ofNat k))) (fs := []) rfl (by simp only [quiet, s8]) rfl rfl ?_
    refine ops_q (v := .lit (.int .i64 (Int.ofNat (k + 1)))) (fs := []) rfl (by simp only [quiet, ev_set]; exact congrArg one (addQ (c := Int.ofNat (k + 1)) rfl (by simp only [Int.ofNat_eq_natCast]; omega) (by simp only [Int.ofNat_eq_natCast]; omega))) rfl rfl ?_
    refine ops_q (v := .lit (.int .i64 (Int.ofNat (k + 1)))) (fs := []) rfl rfl rfl rfl ?_
    refine ops_nil ?_
    rw [← hst] at p2 p3
    refine (ih (k + 1) (by omega) _ h' o' ?_ ?_ ?_ ?_ ?_ (hB.keptLo p4 hBl) hr' p2 (Nat.le_trans hlo p4.next)).mono ?_
    · simp only [ev_set]; exact s0
    · simp only [ev_set]; exact s3
    · simp only [ev_set]; exact p1
    · simp only [ev_set]; exact p3
    · simp only [ev_set]; rfl
    · rintro out ⟨tm2, h2, v2, o2, rfl, q1, q2, q3, q4, q5⟩
      exact ⟨tm2, h2, v2, o2, rfl, q1, q2, q3, q4, p4.trans q5⟩

end Go.Proofs.YtjilmneaeocimaaGreatDoor.snap
