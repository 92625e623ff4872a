/-
  THE DOCUMENT's LISTS OF IDS: how they lie, and 'counterpaneref34.May', 'Has'; by the author's gen_snap.py, in the calculus of runs.
-/
import Derived.Test.YtjilmneaeocimaaGreatDoorSpGP
namespace Go.Proofs.YtjilmneaeocimaaGreatDoor.snap
open Go Go.Proofs.YtjilmneaeocimaaGreatDoor.Ev

def idC (p : Int × Int) : List SV := [iv p.1, iv p.2]
def flat (r : List (Int × Int)) : List SV := (r.map idC).flatten
theorem flat_length (r : List (Int × Int)) : (flat r).length = r.length * 2 := by
  induction r with
  | nil => rfl
  | cons p r ih => show (idC p ++ flat r).length = _; rw [List.length_append, ih, List.length_cons]; show 2 + _ = _; omega
theorem flat_snoc (r : List (Int × Int)) (p : Int × Int) : flat (r ++ [p]) = flat r ++ idC p := by simp [flat]
theorem flat_cut : ∀ (r : List (Int × Int)) (k : Nat) (p : Int × Int), r[k]? = some p → cut (flat r) (k * 2) 2 = some (idC p) ∧ cut (flat r) (k * 2 + 0) 1 = some [iv p.1] ∧ cut (flat r) (k * 2 + 1) 1 = some [iv p.2]
  | [], _, _, h => by simp at h
  | q :: r, 0, p, h => by
    obtain rfl : q = p := by simpa using h
    exact ⟨rfl, rfl, rfl⟩
  | q :: r, k + 1, p, h => by
    obtain ⟨h1, h2, h3⟩ := flat_cut r k p (by simpa using h)
    have e : flat (q :: r) = idC q ++ flat r := rfl
    have hd : ∀ j, (flat (q :: r)).drop ((k + 1) * 2 + j) = (flat r).drop (k * 2 + j) := fun j => by
      rw [e, show (k + 1) * 2 + j = (idC q).length + (k * 2 + j) by show _ = 2 + _; omega, List.drop_append, List.drop_eq_nil_of_le (Nat.le_add_right _ _), List.nil_append, Nat.add_sub_cancel_left]
    refine ⟨?_, ?_, ?_⟩
    · have := hd 0
      simp only [Nat.add_zero] at this
      simp only [cut, this] at h1 ⊢
      exact h1
    · simp only [cut, hd 0] at h2 ⊢
      exact h2
    · simp only [cut, hd 1] at h3 ⊢
      exact h3
/-- The value v is the list r: nil, an empty one, or a row of its own whose block's number is at least lo. -/
def IdR (h : Hp) (lo : Nat) (v : SV) (r : List (Int × Int)) : Prop := (r = [] ∧ (v = .lit (.slice none 0 0) ∨ ∃ b, v = .slice b 0 0 0 ∧ At h b (.cells [] 44))) ∨ ∃ bl, v = .row bl 0 r.length r.length bl ∧ lo ≤ bl ∧ At h bl (.row (flat r) 44 r.length bl 2)
theorem IdR.kept {h H : Hp} {lo : Nat} {v : SV} {r : List (Int × Int)} (s : IdR h lo v r) (k : Kept h.next h H) : IdR H lo v r := by
  rcases s with ⟨e, s | ⟨b, s1, s2⟩⟩ | ⟨bl, s1, s2, s3⟩
  · exact .inl ⟨e, .inl s⟩
  · exact .inl ⟨e, .inr ⟨b, s1, s2.kept k⟩⟩
  · exact .inr ⟨bl, s1, s2, s3.kept k⟩
theorem IdR.less {h : Hp} {lo lo' : Nat} {v : SV} {r : List (Int × Int)} (s : IdR h lo v r) (hl : lo' ≤ lo) : IdR h lo' v r := by
  rcases s with s | ⟨bl, s1, s2, s3⟩
  · exact .inl s
  · exact .inr ⟨bl, s1, Nat.le_trans hl s2, s3⟩
theorem IdR.nil (h : Hp) (lo : Nat) : IdR h lo (.lit (.slice none 0 0)) [] := .inl ⟨rfl, .inl rfl⟩
set_option maxRecDepth 10000 in
theorem tyIds : tyU Tryz.prog 25 = some (.slice 44) := rfl
set_option maxRecDepth 10000 in
theorem szId : tySize Tryz.prog 44 = some 2 := rfl
set_option maxRecDepth 10000 in
theorem nilIds (h : Hp) (p : Option Addr) (c : Nat) : lenQ Tryz.prog h 25 (.lit (.slice p 0 c)) = some (.lit (.int .i64 0), []) := rfl
theorem IdR.one {h : Hp} {lo : Nat} {v : SV} {r : List (Int × Int)} (s : IdR h lo v r) : SV.one v = true := by
  rcases s with ⟨_, rfl | ⟨b, rfl, _⟩⟩ | ⟨bl, rfl, _⟩ <;> rfl
theorem IdR.len {h : Hp} {lo : Nat} {v : SV} {r : List (Int × Int)} (s : IdR h lo v r) (h' : Hp) : lenQ Tryz.prog h' 25 v = some (.lit (.int .i64 (Int.ofNat r.length)), []) := by
  rcases s with ⟨rfl, rfl | ⟨b, rfl, _⟩⟩ | ⟨bl, rfl, _⟩
  · exact nilIds h' none 0
  · simp only [lenQ, tyIds]; rfl
  · simp only [lenQ, tyIds]; rfl
theorem idIdx {bl n k : Nat} (h : k < n) : indexAddrQ Tryz.prog 25 (.row bl 0 n n bl) (.lit (.int .i64 (Int.ofNat k))) = some (.ptr bl (k * 2)) := by
  simp only [indexAddrQ, tyIds, szId, idxQ]
  rw [show Nat.blt k n = true from Nat.ble_eq_true_of_le h, cond_true]
  simp only [Nat.zero_add]
theorem IdR.at {h : Hp} {lo : Nat} {v : SV} {r : List (Int × Int)} {k : Nat} {p : Int × Int} (s : IdR h lo v r) (hk : r[k]? = some p) : ∃ bl, v = .row bl 0 r.length r.length bl ∧ At h bl (.row (flat r) 44 r.length bl 2) := by
  rcases s with ⟨rfl, _⟩ | ⟨bl, s1, _, s3⟩
  · simp at hk
  · exact ⟨bl, s1, s3⟩
theorem load_rowc {Γ : Glob} {h : Hp} {b k c cv z : Nat} {cs : List SV} {v : SV} {e : TypeId} (hb : h.objs.get b = some (.row cs e c cv z)) (hv : cut cs k 1 = some [v]) : loadQ Tryz.prog Γ h 3 (.ptr b k) = some (v, [.cells b k [v]]) := load_rowI hb hv
theorem load_rowA {P : Program} {Γ : Glob} {h : Hp} {t : TypeId} {b k n c cv z : Nat} {cs vs : List SV} {e : TypeId} (ht : tyAgg P t = some true) (hs : tySize P t = some n) (hb : h.objs.get b = some (.row cs e c cv z)) (hv : cut cs k n = some vs) : loadQ P Γ h t (.ptr b k) = some (.agg vs, [.cells b k vs]) := by
  simp only [loadQ, ht, hs, readCells, knownCells, hb, Option.bind_some, hv]
set_option maxRecDepth 10000 in
theorem infoId : ∃ i z, Tryz.prog.info? 44 = some i ∧ i.zero = some z ∧ i.size = 2 ∧ i.bytes ≤ 1000 ∧ (SV.cells (.lit z)).length = 2 := ⟨_, _, rfl, rfl, rfl, by decide, rfl⟩
set_option maxRecDepth 10000 in
theorem zeroId : ∃ z, tyZero Tryz.prog 44 = some z ∧ (SV.cells (.lit z)).length = 2 := ⟨_, rfl, rfl⟩
theorem build_id (h : Hp) (p : Int × Int) : buildSliceE Tryz.prog h 25 1 [(0, .agg (idC p))] = some (.slice h.next 0 1 1, ⟨h.objs.set h.next (.cells (idC p) 44), h.next + 1⟩) := by
  obtain ⟨z, hz, hzs⟩ := zeroId
  exact build_one (c := idC p) tyIds szId hz hzs (by decide) (by decide) rfl rfl rfl
theorem append_id {Γ : Glob} {h : Hp} {lo nb : Nat} {v : SV} {r : List (Int × Int)} {p : Int × Int} (hr : IdR h lo v r) (hn : r.length ≤ 1000000) (hlo : lo ≤ h.next) (hnb : h.objs.get nb = some (.cells (idC p) 44)) :
    ∃ v' h', appendE Tryz.prog Γ h [25, 25] v (.slice nb 0 1 1) = some (v', h') ∧ IdR h' lo v' (r ++ [p]) ∧ h'.next = h.next + 1 ∧ ∀ b, b < lo → h'.objs.get b = h.objs.get b := by
  obtain ⟨i, z, hi, hz, hsz, hby, hzs⟩ := infoId
  have hmap : ∀ r : List (Int × Int), (r.map idC).flatten = flat r := fun _ => rfl
  rcases hr with ⟨rfl, rfl | ⟨b, rfl, hb⟩⟩ | ⟨bl, rfl, s2, s3⟩
  · obtain ⟨v', h', e1, e2, e3, e4⟩ := append_one (Γ := Γ) (bl := 0) (lo := lo) tyIds hi hz hby (by omega) (by rw [hsz]; exact hzs) (v := .lit (.slice none 0 0)) (l := []) (.inl ⟨rfl, rfl⟩) (fun x hx => by cases hx) (c := idC p) (nb := nb) (by rw [hsz]; rfl) rfl (Nat.zero_le _) hlo hnb
    refine ⟨v', h', e1, ?_, e3, fun b hb => e4 b (by omega) (.inl rfl)⟩
    rcases e2 with ⟨_, e2⟩ | ⟨f1, f2, f3, f4⟩
    · cases e2
    · rw [hsz] at f4
      exact .inr ⟨h.next, f1, f2, f3, f4⟩
  · have hcut : cut (idC p) 0 (1 * 2) = some (idC p) := rfl
    have hsrc : srcCells Γ h 2 (.slice nb 0 1 1) = some (idC p, 1) := by
      simp only [srcCells, readCells, knownCells, hnb, Option.bind_some, hcut]
    have hold : readCells Γ h (.ptr b 0) (0 * 2) = some ([], [.cells b 0 []]) := by
      simp only [readCells, knownCells, hb.get, Option.bind_some]
      rfl
    refine ⟨(newRowE h ([] ++ idC p) 44 (0 + 1) 2).1, (newRowE h ([] ++ idC p) 44 (0 + 1) 2).2, ?_, .inr ⟨h.next, rfl, hlo, ⟨Nat.lt_succ_self _, ?_⟩⟩, rfl, fun c hc => ?_⟩
    · have hcond : (Nat.ble i.bytes 1000 && Nat.ble 1 2000000 && Nat.blt 0 2 && Nat.beq (SV.cells (.lit z)).length 2 && Nat.beq (idC p).length (1 * 2)) = true := by
        rw [Nat.ble_eq_true_of_le hby, beq_t hzs]
        rfl
      simp only [appendE, tyIds, hi, hz, hsz, hsrc, isIntD, cond_false, hcond, cond_true]
      rw [show (Nat.ble 0 2000000 && Nat.ble 0 0) = true from rfl, cond_true, show Nat.ble (0 + 1) 0 = false from rfl, cond_false]
      rw [hold]
    · simp only [newRowE, T.get_set, if_true]
      rfl
    · simp only [newRowE, T.get_set]
      rw [if_neg (by omega)]
  · have hl : (r.map idC).length = r.length := List.length_map _
    obtain ⟨v', h', e1, e2, e3, e4⟩ := append_one (Γ := Γ) (bl := bl) (lo := lo) tyIds hi hz hby (by omega) (by rw [hsz]; exact hzs) (v := .row bl 0 r.length r.length bl) (l := r.map idC) (.inr ⟨by rw [hl], s2, s3.lt, by rw [hl, hsz]; exact s3.get⟩) (fun x hx => by obtain ⟨y, _, rfl⟩ := List.mem_map.1 hx; rw [hsz]; rfl) (c := idC p) (nb := nb) (by rw [hsz]; rfl) rfl (by rw [hl]; omega) hlo hnb
    refine ⟨v', h', e1, ?_, e3, fun b hb => e4 b (by omega) (.inr (by omega))⟩
    rcases e2 with ⟨_, e2⟩ | ⟨f1, f2, f3, f4⟩
    · exact absurd e2 (by simp)
    · have hl2 : (r.map idC ++ [idC p]).length = (r ++ [p]).length := by simp
      have hf : (r.map idC ++ [idC p]).flatten = flat (r ++ [p]) := by simp [flat]
      rw [hsz, hl2, hf] at f4
      rw [hl2] at f1
      exact .inr ⟨h.next, f1, f2, f3, f4⟩
section
variable {Γ : Glob} {ops : Array Oper} {o1 o2 : Oper} {l : List Oper} {tm : T SV} {n t1 t2 : Nat} {ms : List Nat} {hp : Hp} {Φ : Out → Prop}
/-- One id more. -/
theorem ops_app {x s y : Operand} {v : SV} {p : Int × Int} {r : List (Int × Int)} {lo : Nat}
    (w1 : wantedQ ops ⟨tm, n, ms⟩ o1 = some true) (h1 : o1.op = .buildSlice 25 1 #[(0, x)]) (hx : Fr.ev ⟨tm, n, ms⟩ x = .agg (idC p)) (p1 : o1.dst = some t1) (q1 : Nat.blt t1 n = true)
    (w2 : wantedQ ops ⟨tm.set t1 (.slice hp.next 0 1 1), n, ms⟩ o2 = some true) (h2 : o2.op = .call ⟨.builtin .append, #[s, y], #[25, 25]⟩) (hs : Fr.ev ⟨tm.set t1 (.slice hp.next 0 1 1), n, ms⟩ s = v) (hy : Fr.ev ⟨tm.set t1 (.slice hp.next 0 1 1), n, ms⟩ y = .slice hp.next 0 1 1) (p2 : o2.dst = some t2) (q2 : Nat.blt t2 n = true)
    (hrow : IdR hp lo v r) (hn : r.length ≤ 1000000) (hlo : lo ≤ hp.next)
    (k : ∀ v' H, IdR H lo v' (r ++ [p]) → H.next = hp.next + 2 → (∀ b, b < lo → H.objs.get b = hp.objs.get b) → RunsOps Tryz.prog Γ ops l ⟨(tm.set t1 (.slice hp.next 0 1 1)).set t2 v', n, ms⟩ H Φ) : RunsOps Tryz.prog Γ ops (o1 :: o2 :: l) ⟨tm, n, ms⟩ hp Φ := by
  have hbs := build_id hp p
  have hrow2 : IdR ⟨hp.objs.set hp.next (.cells (idC p) 44), hp.next + 1⟩ lo v r := hrow.kept ⟨Nat.le_succ _, fun b hb => get_ne (Nat.ne_of_lt hb)⟩
  obtain ⟨v', H, happ, hrow', hnx, hget⟩ := append_id (Γ := Γ) (nb := hp.next) hrow2 hn (Nat.le_succ_of_le hlo) get_same
  refine ops_e (v := .slice hp.next 0 1 1) (hp' := ⟨hp.objs.set hp.next (.cells (idC p) 44), hp.next + 1⟩) w1 (by rw [h1]; rfl) (by rw [h1]; rfl) (by
    rw [h1]
    simp only [effect, List.map_cons, List.map_nil, hx, hbs]
    rfl) (Nat.le_succ _) p1 q1 ?_
  refine ops_e (v := v') (hp' := H) w2 (by rw [h2]; rfl) (by rw [h2]; rfl) (by
    rw [h2]
    simp only [effect, hs, hy]
    exact congrArg Ev.val happ) (by have : H.next = hp.next + 1 + 1 := hnx; show hp.next + 1 ≤ H.next; omega) p2 q2 ?_
  exact k v' H hrow' hnx fun b hb => (hget b hb).trans (get_ne (by omega))
end
set_option maxHeartbeats 8000000 in
set_option maxRecDepth 20000 in
theorem rmay_runs (Γ : Glob) (a n : Int) (h : Hp) : Runs Tryz.prog Γ (.call 27 [.agg [.lit (.int .i64 a), .lit (.int .i64 n)]] h) (Tells h (.lit (.bool (decide (May (a, n)))))) := by
  by_cases h1 : 1 ≤ a
  case neg =>
    rw [show decide (May (a, n)) = false from decide_eq_false fun hm => h1 hm.1]
    refine runs_call Tryz.func27 rfl ?_
    refine runs_seq ?_
    refine runs_region ?_
    refine ops_box (cs := [.lit (.int .i64 a), .lit (.int .i64 n)]) rfl rfl rfl rfl rfl (fun H1 g1 k1 n1 => ?_)
    refine ops_q (v := .lit (.bool false)) (fs := []) rfl rfl rfl rfl ?_
    refine ops_nil ?_
    refine runs_seq ?_
    refine runs_region ?_
    refine ops_q (v := .ptr h.next 0) (fs := []) rfl rfl rfl rfl ?_
    refine ops_q (v := .lit (.int .i64 a)) (fs := [.cells h.next 0 [.lit (.int .i64 a)]]) rfl (by simp only [quiet, ev_set]; exact load_cell rfl g1.get rfl) rfl rfl ?_
    refine ops_q (v := .lit (.bool false)) (fs := []) rfl (by simp only [quiet, ev_set]; exact congrArg one (geqF h1)) rfl rfl ?_
    refine ops_q (v := .lit (.bool false)) (fs := []) rfl rfl rfl rfl ?_
    refine ops_u rfl rfl rfl ?_
    refine ops_u rfl rfl rfl ?_
    refine ops_u rfl rfl rfl ?_
    refine ops_q (v := .lit (.bool false)) (fs := []) rfl rfl rfl rfl ?_
    refine ops_q (v := .lit (.bool false)) (fs := []) rfl rfl rfl rfl ?_
    refine ops_u rfl rfl rfl ?_
    refine ops_u rfl rfl rfl ?_
    refine ops_u rfl rfl rfl ?_
    refine ops_q (v := .lit (.bool false)) (fs := []) rfl rfl rfl rfl ?_
    refine ops_q (v := .lit (.bool false)) (fs := []) rfl rfl rfl rfl ?_
    refine ops_nil ?_
    refine runs_ret ?_
    exact ⟨_, rfl, rfl, k1⟩
  by_cases h2 : a ≤ 1000
  case neg =>
    rw [show decide (May (a, n)) = false from decide_eq_false fun hm => h2 hm.2.1]
    refine runs_call Tryz.func27 rfl ?_
    refine runs_seq ?_
    refine runs_region ?_
    refine ops_box (cs := [.lit (.int .i64 a), .lit (.int .i64 n)]) rfl rfl rfl rfl rfl (fun H1 g1 k1 n1 => ?_)
    refine ops_q (v := .lit (.bool false)) (fs := []) rfl rfl rfl rfl ?_
    refine ops_nil ?_
    refine runs_seq ?_
    refine runs_region ?_
    refine ops_q (v := .ptr h.next 0) (fs := []) rfl rfl rfl rfl ?_
    refine ops_q (v := .lit (.int .i64 a)) (fs := [.cells h.next 0 [.lit (.int .i64 a)]]) rfl (by simp only [quiet, ev_set]; exact load_cell rfl g1.get rfl) rfl rfl ?_
    refine ops_q (v := .lit (.bool true)) (fs := []) rfl (by simp only [quiet, ev_set]; exact congrArg one (geqT h1)) rfl rfl ?_
    refine ops_q (v := .lit (.bool true)) (fs := []) rfl rfl rfl rfl ?_
    refine ops_q (v := .ptr h.next 0) (fs := []) rfl rfl rfl rfl ?_
    refine ops_q (v := .lit (.int .i64 a)) (fs := [.cells h.next 0 [.lit (.int .i64 a)]]) rfl (by simp only [quiet, ev_set]; exact load_cell rfl g1.get rfl) rfl rfl ?_
    refine ops_q (v := .lit (.bool false)) (fs := []) rfl (by simp only [quiet, ev_set]; exact congrArg one (leqF h2)) rfl rfl ?_
    refine ops_q (v := .lit (.bool false)) (fs := []) rfl rfl rfl rfl ?_
    refine ops_q (v := .lit (.bool false)) (fs := []) rfl rfl rfl rfl ?_
    refine ops_u rfl rfl rfl ?_
    refine ops_u rfl rfl rfl ?_
    refine ops_u rfl rfl rfl ?_
    refine ops_q (v := .lit (.bool false)) (fs := []) rfl rfl rfl rfl ?_
    refine ops_q (v := .lit (.bool false)) (fs := []) rfl rfl rfl rfl ?_
    refine ops_nil ?_
    refine runs_ret ?_
    exact ⟨_, rfl, rfl, k1⟩
  by_cases h3 : 1 ≤ n
  case neg =>
    rw [show decide (May (a, n)) = false from decide_eq_false fun hm => h3 hm.2.2]
    refine runs_call Tryz.func27 rfl ?_
    refine runs_seq ?_
    refine runs_region ?_
    refine ops_box (cs := [.lit (.int .i64 a), .lit (.int .i64 n)]) rfl rfl rfl rfl rfl (fun H1 g1 k1 n1 => ?_)
    refine ops_q (v := .lit (.bool false)) (fs := []) rfl rfl rfl rfl ?_
    refine ops_nil ?_
    refine runs_seq ?_
    refine runs_region ?_
    refine ops_q (v := .ptr h.next 0) (fs := []) rfl rfl rfl rfl ?_
    refine ops_q (v := .lit (.int .i64 a)) (fs := [.cells h.next 0 [.lit (.int .i64 a)]]) rfl (by simp only [quiet, ev_set]; exact load_cell rfl g1.get rfl) rfl rfl ?_
    refine ops_q (v := .lit (.bool true)) (fs := []) rfl (by simp only [quiet, ev_set]; exact congrArg one (geqT h1)) rfl rfl ?_
    refine ops_q (v := .lit (.bool true)) (fs := []) rfl rfl rfl rfl ?_
    refine ops_q (v := .ptr h.next 0) (fs := []) rfl rfl rfl rfl ?_
    refine ops_q (v := .lit (.int .i64 a)) (fs := [.cells h.next 0 [.lit (.int .i64 a)]]) rfl (by simp only [quiet, ev_set]; exact load_cell rfl g1.get rfl) rfl rfl ?_
    refine ops_q (v := .lit (.bool true)) (fs := []) rfl (by simp only [quiet, ev_set]; exact congrArg one (leqT h2)) rfl rfl ?_
    refine ops_q (v := .lit (.bool true)) (fs := []) rfl rfl rfl rfl ?_
    refine ops_q (v := .lit (.bool true)) (fs := []) rfl rfl rfl rfl ?_
    refine ops_q (v := .ptr h.next 1) (fs := []) rfl rfl rfl rfl ?_
    refine ops_q (v := .lit (.int .i64 n)) (fs := [.cells h.next 1 [.lit (.int .i64 n)]]) rfl (by simp only [quiet, ev_set]; exact load_cell rfl g1.get rfl) rfl rfl ?_
    refine ops_q (v := .lit (.bool false)) (fs := []) rfl (by simp only [quiet, ev_set]; exact congrArg one (geqF h3)) rfl rfl ?_
    refine ops_q (v := .lit (.bool false)) (fs := []) rfl rfl rfl rfl ?_
    refine ops_q (v := .lit (.bool false)) (fs := []) rfl rfl rfl rfl ?_
    refine ops_nil ?_
    refine runs_ret ?_
    exact ⟨_, rfl, rfl, k1⟩
  rw [show decide (May (a, n)) = true from decide_eq_true ⟨h1, h2, h3⟩]
  refine runs_call Tryz.func27 rfl ?_
  refine runs_seq ?_
  refine runs_region ?_
  refine ops_box (cs := [.lit (.int .i64 a), .lit (.int .i64 n)]) rfl rfl rfl rfl rfl (fun H1 g1 k1 n1 => ?_)
  refine ops_q (v := .lit (.bool false)) (fs := []) rfl rfl rfl rfl ?_
  refine ops_nil ?_
  refine runs_seq ?_
  refine runs_region ?_
  refine ops_q (v := .ptr h.next 0) (fs := []) rfl rfl rfl rfl ?_
  refine ops_q (v := .lit (.int .i64 a)) (fs := [.cells h.next 0 [.lit (.int .i64 a)]]) rfl (by simp only [quiet, ev_set]; exact load_cell rfl g1.get rfl) rfl rfl ?_
  refine ops_q (v := .lit (.bool true)) (fs := []) rfl (by simp only [quiet, ev_set]; exact congrArg one (geqT h1)) rfl rfl ?_
  refine ops_q (v := .lit (.bool true)) (fs := []) rfl rfl rfl rfl ?_
  refine ops_q (v := .ptr h.next 0) (fs := []) rfl rfl rfl rfl ?_
  refine ops_q (v := .lit (.int .i64 a)) (fs := [.cells h.next 0 [.lit (.int .i64 a)]]) rfl (by simp only [quiet, ev_set]; exact load_cell rfl g1.get rfl) rfl rfl ?_
  refine ops_q (v := .lit (.bool true)) (fs := []) rfl (by simp only [quiet, ev_set]; exact congrArg one (leqT h2)) rfl rfl ?_
  refine ops_q (v := .lit (.bool true)) (fs := []) rfl rfl rfl rfl ?_
  refine ops_q (v := .lit (.bool true)) (fs := []) rfl rfl rfl rfl ?_
  refine ops_q (v := .ptr h.next 1) (fs := []) rfl rfl rfl rfl ?_
  refine ops_q (v := .lit (.int .i64 n)) (fs := [.cells h.next 1 [.lit (.int .i64 n)]]) rfl (by simp only [quiet, ev_set]; exact load_cell rfl g1.get rfl) rfl rfl ?_
  refine ops_q (v := .lit (.bool true)) (fs := []) rfl (by simp only [quiet, ev_set]; exact congrArg one (geqT h3)) rfl rfl ?_
  refine ops_q (v := .lit (.bool true)) (fs := []) rfl rfl rfl rfl ?_
  refine ops_q (v := .lit (.bool true)) (fs := []) rfl rfl rfl rfl ?_
  refine ops_nil ?_
  refine runs_ret ?_
  exact ⟨_, rfl, rfl, k1⟩

noncomputable def rhLoop : Code := (inBlk (seqR (seqL (seqR (bodyOf Tryz.f28)))))
noncomputable def rhB : Code := (inBlk (seqL (seqR (inLoop rhLoop))))
noncomputable def rhOps : Array Oper := opsOf (seqL rhB)
/-- Does an entry tell it? -/
def hit (p x : Int × Int) : Bool := decide (May p) && (decide (x.1 = p.1) && decide (p.2 ≤ x.2))
theorem has_hit {r : List (Int × Int)} (ha : Asc r) (p : Int × Int) : has r p = r.any (hit p) := by
  rw [Bool.eq_iff_iff, List.any_eq_true]
  simp only [has, hit, Bool.and_eq_true, decide_eq_true_eq]
  constructor
  · rintro ⟨hm, hle⟩
    have h2 := hm.2.2
    exact ⟨_, mem_of_val (l := r) (a := p.1) (by omega), hm, rfl, hle⟩
  · rintro ⟨x, hx, hm, e, hle⟩
    refine ⟨hm, ?_⟩
    rw [← e, val_mem ha.nodup hx]
    exact hle
set_option maxHeartbeats 8000000 in
set_option maxRecDepth 20000 in
theorem rh_body (Γ : Glob) (B : Nat) (a n : Int) (r : List (Int × Int)) (v : SV) (lo k : Nat) (x : Int × Int) (tm : T SV) (h : Hp) (e0 : Fr.ev ⟨tm, 34, []⟩ (.tmp 0) = v) (e3 : Fr.ev ⟨tm, 34, []⟩ (.tmp 3) = .ptr B 0) (e5 : Fr.ev ⟨tm, 34, []⟩ (.tmp 5) = .lit (.int .i64 (Int.ofNat k))) (hB : At h B (.cells [.lit (.int .i64 a), .lit (.int .i64 n)] 44)) (hr : IdR h lo v r) (hx : r[k]? = some x) :
    Runs Tryz.prog Γ (.code rhB none ⟨tm, 34, []⟩ h) fun o => ∃ tm' h' v0, (∀ t ∈ [0, 3, 5], Fr.ev ⟨tm', 34, []⟩ (.tmp t) = Fr.ev ⟨tm, 34, []⟩ (.tmp t)) ∧ Kept h.next h h' ∧ (hit (a, n) x = false ∧ o = ⟨.normal, ⟨tm', 34, []⟩, h', v0⟩ ∨ hit (a, n) x = true ∧ o = ⟨.ret, ⟨tm', 34, []⟩, h', v0⟩ ∧ Fr.ev ⟨tm', 34, []⟩ (.tmp 4) = .lit (.bool true)) := by
  have hkl : k < r.length := (List.getElem?_eq_some_iff.1 hx).1
  obtain ⟨bl, hv, hbl⟩ := hr.at hx
  obtain ⟨hcA, hc0, hc1⟩ := flat_cut r k x hx
  by_cases hm : May (a, n)
  case neg =>
    have hm : decide (May (a, n)) = false := decide_eq_false hm
    refine runs_seq ?_
    refine runs_drawn (ops := rhOps) rfl ?_
    have t_rhOps_0_1 : Nat.testBit (descOf 0 rhOps.toList 0 0) 1 = true := rfl
    refine drawn_c (i := 1) (f := 27) (args := [.agg [.lit (.int .i64 a), .lit (.int .i64 n)]]) (m' := 1) (held' := [⟨descOf 0 rhOps.toList 0 0, [.cells B 0 [.lit (.int .i64 a), .lit (.int .i64 n)]], none⟩]) (hp := h) (by
      refine take_f (v := .agg [.lit (.int .i64 a), .lit (.int .i64 n)]) (fact := .cells B 0 [.lit (.int .i64 a), .lit (.int .i64 n)]) rfl rfl rfl (by simp only [quiet, e3]; exact load_cut rfl rfl hB.get rfl) rfl rfl ?_
      refine take_loud rfl rfl rfl rfl rfl ?_
      refine take_wait rfl rfl ?_
      refine take_wait rfl rfl ?_
      refine take_wait rfl rfl ?_
      refine take_wait rfl rfl ?_
      refine take_wait rfl rfl ?_
      refine take_wait rfl rfl ?_
      refine take_wait rfl rfl ?_
      refine take_wait rfl rfl ?_
      refine take_wait rfl rfl ?_
      refine take_wait rfl rfl ?_
      refine take_wait rfl rfl ?_
      refine take_wait rfl rfl ?_
      refine take_wait rfl rfl ?_
      refine take_wait rfl rfl ?_
      refine take_wait rfl rfl ?_
      refine take_wait rfl rfl ?_
      refine take_wait rfl rfl ?_
      refine take_wait rfl rfl ?_
      refine take_wait rfl rfl ?_
      refine take_wait rfl rfl ?_
      rfl) (by rfl) (by rfl) (by rfl) (clone_body Tryz.func27 rfl) rfl rfl ?_
    refine ((rmay_runs Γ a n h).mono fun r hr => (⟨hr.1.trans (by rw [hm]), hr.2⟩ : Tells h (.lit (.bool false)) r)).mono ?_
    rintro ⟨ex1, fr1, H1, v1⟩ ⟨hv1, k1⟩
    have hv1 : v1 = .lit (.bool false) := hv1
    subst hv1
    have k1 : Kept h.next h H1 := k1
    have hB_1 := hB.kept k1
    have hbl_1 := hbl.kept k1
    refine ⟨_, rfl, (by simp only [factsStand, t_rhOps_0_1, cond_true, List.all_cons, List.all_nil, Bool.and_true]), ?_⟩
    rw [show drop 1 [⟨descOf 0 rhOps.toList 0 0, [.cells B 0 [.lit (.int .i64 a), .lit (.int .i64 n)]], none⟩] = [] from by simp only [drop, t_rhOps_0_1, cond_true]]
    refine drawn_end (m' := 4194303) (held' := []) (hp' := H1) (by
      refine take_done rfl ?_
      refine take_done rfl ?_
      refine take_q (v := .lit (.bool false)) rfl rfl rfl rfl rfl rfl ?_
      refine take_unwanted rfl rfl rfl rfl ?_
      refine take_unwanted rfl rfl rfl rfl ?_
      refine take_unwanted rfl rfl rfl rfl ?_
      refine take_unwanted rfl rfl rfl rfl ?_
      refine take_unwanted rfl rfl rfl rfl ?_
      refine take_unwanted rfl rfl rfl rfl ?_
      refine take_unwanted rfl rfl rfl rfl ?_
      refine take_unwanted rfl rfl rfl rfl ?_
      refine take_q (v := .lit (.bool false)) rfl rfl rfl rfl rfl rfl ?_
      refine take_q (v := .lit (.bool false)) rfl rfl rfl rfl rfl rfl ?_
      refine take_unwanted rfl rfl rfl rfl ?_
      refine take_unwanted rfl rfl rfl rfl ?_
      refine take_unwanted rfl rfl rfl rfl ?_
      refine take_unwanted rfl rfl rfl rfl ?_
      refine take_unwanted rfl rfl rfl rfl ?_
      refine take_unwanted rfl rfl rfl rfl ?_
      refine take_unwanted rfl rfl rfl rfl ?_
      refine take_unwanted rfl rfl rfl rfl ?_
      refine take_q (v := .lit (.bool false)) rfl rfl rfl rfl rfl rfl ?_
      rfl) (by rfl) (by rfl) ?_
    refine runs_cond false rfl ?_
    refine runs_skip ?_
    exact ⟨_, _, _, (slots3 (by simp only [ev_set] <;> rfl) (by simp only [ev_set] <;> rfl) (by simp only [ev_set] <;> rfl)), k1, .inl ⟨by simp only [hit, hm, Bool.false_and], rfl⟩⟩
  have hm : decide (May (a, n)) = true := decide_eq_true hm
  by_cases h2 : x.1 = a
  case neg =>
    refine runs_seq ?_
    refine runs_drawn (ops := rhOps) rfl ?_
    have t_rhOps_0_1 : Nat.testBit (descOf 0 rhOps.toList 0 0) 1 = true := rfl
    refine drawn_c (i := 1) (f := 27) (args := [.agg [.lit (.int .i64 a), .lit (.int .i64 n)]]) (m' := 1) (held' := [⟨descOf 0 rhOps.toList 0 0, [.cells B 0 [.lit (.int .i64 a), .lit (.int .i64 n)]], none⟩]) (hp := h) (by
      refine take_f (v := .agg [.lit (.int .i64 a), .lit (.int .i64 n)]) (fact := .cells B 0 [.lit (.int .i64 a), .lit (.int .i64 n)]) rfl rfl rfl (by simp only [quiet, e3]; exact load_cut rfl rfl hB.get rfl) rfl rfl ?_
      refine take_loud rfl rfl rfl rfl rfl ?_
      refine take_wait rfl rfl ?_
      refine take_wait rfl rfl ?_
      refine take_wait rfl rfl ?_
      refine take_wait rfl rfl ?_
      refine take_wait rfl rfl ?_
      refine take_wait rfl rfl ?_
      refine take_wait rfl rfl ?_
      refine take_wait rfl rfl ?_
      refine take_wait rfl rfl ?_
      refine take_wait rfl rfl ?_
      refine take_wait rfl rfl ?_
      refine take_wait rfl rfl ?_
      refine take_wait rfl rfl ?_
      refine take_wait rfl rfl ?_
      refine take_wait rfl rfl ?_
      refine take_wait rfl rfl ?_
      refine take_wait rfl rfl ?_
      refine take_wait rfl rfl ?_
      refine take_wait rfl rfl ?_
      refine take_wait rfl rfl ?_
      rfl) (by rfl) (by rfl) (by rfl) (clone_body Tryz.func27 rfl) rfl rfl ?_
    refine ((rmay_runs Γ a n h).mono fun r hr => (⟨hr.1.trans (by rw [hm]), hr.2⟩ : Tells h (.lit (.bool true)) r)).mono ?_
    rintro ⟨ex1, fr1, H1, v1⟩ ⟨hv1, k1⟩
    have hv1 : v1 = .lit (.bool true) := hv1
    subst hv1
    have k1 : Kept h.next h H1 := k1
    have hB_1 := hB.kept k1
    have hbl_1 := hbl.kept k1
    refine ⟨_, rfl, (by simp only [factsStand, t_rhOps_0_1, cond_true, List.all_cons, List.all_nil, Bool.and_true]), ?_⟩
    rw [show drop 1 [⟨descOf 0 rhOps.toList 0 0, [.cells B 0 [.lit (.int .i64 a), .lit (.int .i64 n)]], none⟩] = [] from by simp only [drop, t_rhOps_0_1, cond_true]]
    refine drawn_end (m' := 4194303) (held' := [⟨descOf 9 rhOps.toList 0 0, [.cells B 0 [.lit (.int .i64 a)]], none⟩, ⟨descOf 7 rhOps.toList 0 0, [.cells bl (k * 2 + 0) [.lit (.int .i64 x.1)]], none⟩]) (hp' := H1) (by
      refine take_done rfl ?_
      refine take_done rfl ?_
      refine take_q (v := .lit (.bool true)) rfl rfl rfl rfl rfl rfl ?_
      refine take_q (v := v) rfl rfl rfl (by simp only [quiet, ev_set, e0] <;> rfl) rfl rfl ?_
      refine take_q (v := .lit (.int .i64 (Int.ofNat k))) rfl rfl rfl (by simp only [quiet, ev_set, e5] <;> rfl) rfl rfl ?_
      refine take_q (v := .ptr bl (k * 2)) rfl rfl rfl (by simp only [quiet, ev_set, hv]; exact congrArg one (idIdx hkl)) rfl rfl ?_
      refine take_q (v := .ptr bl (k * 2 + 0)) rfl rfl rfl rfl rfl rfl ?_
      refine take_f (v := .lit (.int .i64 x.1)) (fact := .cells bl (k * 2 + 0) [.lit (.int .i64 x.1)]) rfl rfl rfl (by simp only [quiet, ev_set]; exact load_rowc hbl_1.get hc0) rfl rfl ?_
      refine take_q (v := .ptr B 0) rfl rfl rfl (by simp only [quiet, ev_set, e3] <;> rfl) rfl rfl ?_
      refine take_f (v := .lit (.int .i64 a)) (fact := .cells B 0 [.lit (.int .i64 a)]) rfl rfl rfl (by simp only [quiet, ev_set]; exact load_cell rfl hB_1.get rfl) rfl rfl ?_
      refine take_q (v := .lit (.bool false)) rfl rfl rfl (by simp only [quiet, ev_set]; exact congrArg one (eqlF h2)) rfl rfl ?_
      refine take_q (v := .lit (.bool false)) rfl rfl rfl rfl rfl rfl ?_
      refine take_q (v := .lit (.bool false)) rfl rfl rfl rfl rfl rfl ?_
      refine take_unwanted rfl rfl rfl rfl ?_
      refine take_unwanted rfl rfl rfl rfl ?_
      refine take_unwanted rfl rfl rfl rfl ?_
      refine take_unwanted rfl rfl rfl rfl ?_
      refine take_unwanted rfl rfl rfl rfl ?_
      refine take_unwanted rfl rfl rfl rfl ?_
      refine take_unwanted rfl rfl rfl rfl ?_
      refine take_unwanted rfl rfl rfl rfl ?_
      refine take_q (v := .lit (.bool false)) rfl rfl rfl rfl rfl rfl ?_
      rfl) (by rfl) (by rfl) ?_
    refine runs_cond false rfl ?_
    refine runs_skip ?_
    exact ⟨_, _, _, (slots3 (by simp only [ev_set] <;> rfl) (by simp only [ev_set] <;> rfl) (by simp only [ev_set] <;> rfl)), k1, .inl ⟨by simp only [hit, hm, decide_eq_false h2, Bool.false_and, Bool.and_false], rfl⟩⟩
  by_cases h3 : n ≤ x.2
  case neg =>
    refine runs_seq ?_
    refine runs_drawn (ops := rhOps) rfl ?_
    have t_rhOps_0_1 : Nat.testBit (descOf 0 rhOps.toList 0 0) 1 = true := rfl
    refine drawn_c (i := 1) (f := 27) (args := [.agg [.lit (.int .i64 a), .lit (.int .i64 n)]]) (m' := 1) (held' := [⟨descOf 0 rhOps.toList 0 0, [.cells B 0 [.lit (.int .i64 a), .lit (.int .i64 n)]], none⟩]) (hp := h) (by
      refine take_f (v := .agg [.lit (.int .i64 a), .lit (.int .i64 n)]) (fact := .cells B 0 [.lit (.int .i64 a), .lit (.int .i64 n)]) rfl rfl rfl (by simp only [quiet, e3]; exact load_cut rfl rfl hB.get rfl) rfl rfl ?_
      refine take_loud rfl rfl rfl rfl rfl ?_
      refine take_wait rfl rfl ?_
      refine take_wait rfl rfl ?_
      refine take_wait rfl rfl ?_
      refine take_wait rfl rfl ?_
      refine take_wait rfl rfl ?_
      refine take_wait rfl rfl ?_
      refine take_wait rfl rfl ?_
      refine take_wait rfl rfl ?_
      refine take_wait rfl rfl ?_
      refine take_wait rfl rfl ?_
      refine take_wait rfl rfl ?_
      refine take_wait rfl rfl ?_
      refine take_wait rfl rfl ?_
      refine take_wait rfl rfl ?_
      refine take_wait rfl rfl ?_
      refine take_wait rfl rfl ?_
      refine take_wait rfl rfl ?_
      refine take_wait rfl rfl ?_
      refine take_wait rfl rfl ?_
      refine take_wait rfl rfl ?_
      rfl) (by rfl) (by rfl) (by rfl) (clone_body Tryz.func27 rfl) rfl rfl ?_
    refine ((rmay_runs Γ a n h).mono fun r hr => (⟨hr.1.trans (by rw [hm]), hr.2⟩ : Tells h (.lit (.bool true)) r)).mono ?_
    rintro ⟨ex1, fr1, H1, v1⟩ ⟨hv1, k1⟩
    have hv1 : v1 = .lit (.bool true) := hv1
    subst hv1
    have k1 : Kept h.next h H1 := k1
    have hB_1 := hB.kept k1
    have hbl_1 := hbl.kept k1
    refine ⟨_, rfl, (by simp only [factsStand, t_rhOps_0_1, cond_true, List.all_cons, List.all_nil, Bool.and_true]), ?_⟩
    rw [show drop 1 [⟨descOf 0 rhOps.toList 0 0, [.cells B 0 [.lit (.int .i64 a), .lit (.int .i64 n)]], none⟩] = [] from by simp only [drop, t_rhOps_0_1, cond_true]]
    refine drawn_end (m' := 4194303) (held' := [⟨descOf 19 rhOps.toList 0 0, [.cells B 1 [.lit (.int .i64 n)]], none⟩, ⟨descOf 17 rhOps.toList 0 0, [.cells bl (k * 2 + 1) [.lit (.int .i64 x.2)]], none⟩, ⟨descOf 9 rhOps.toList 0 0, [.cells B 0 [.lit (.int .i64 a)]], none⟩, ⟨descOf 7 rhOps.toList 0 0, [.cells bl (k * 2 + 0) [.lit (.int .i64 x.1)]], none⟩]) (hp' := H1) (by
      refine take_done rfl ?_
      refine take_done rfl ?_
      refine take_q (v := .lit (.bool true)) rfl rfl rfl rfl rfl rfl ?_
      refine take_q (v := v) rfl rfl rfl (by simp only [quiet, ev_set, e0] <;> rfl) rfl rfl ?_
      refine take_q (v := .lit (.int .i64 (Int.ofNat k))) rfl rfl rfl (by simp only [quiet, ev_set, e5] <;> rfl) rfl rfl ?_
      refine take_q (v := .ptr bl (k * 2)) rfl rfl rfl (by simp only [quiet, ev_set, hv]; exact congrArg one (idIdx hkl)) rfl rfl ?_
      refine take_q (v := .ptr bl (k * 2 + 0)) rfl rfl rfl rfl rfl rfl ?_
      refine take_f (v := .lit (.int .i64 x.1)) (fact := .cells bl (k * 2 + 0) [.lit (.int .i64 x.1)]) rfl rfl rfl (by simp only [quiet, ev_set]; exact load_rowc hbl_1.get hc0) rfl rfl ?_
      refine take_q (v := .ptr B 0) rfl rfl rfl (by simp only [quiet, ev_set, e3] <;> rfl) rfl rfl ?_
      refine take_f (v := .lit (.int .i64 a)) (fact := .cells B 0 [.lit (.int .i64 a)]) rfl rfl rfl (by simp only [quiet, ev_set]; exact load_cell rfl hB_1.get rfl) rfl rfl ?_
      refine take_q (v := .lit (.bool true)) rfl rfl rfl (by simp only [quiet, ev_set]; exact congrArg one (eqlT h2)) rfl rfl ?_
      refine take_q (v := .lit (.bool true)) rfl rfl rfl rfl rfl rfl ?_
      refine take_q (v := .lit (.bool true)) rfl rfl rfl rfl rfl rfl ?_
      refine take_q (v := v) rfl rfl rfl (by simp only [quiet, ev_set, e0] <;> rfl) rfl rfl ?_
      refine take_q (v := .lit (.int .i64 (Int.ofNat k))) rfl rfl rfl (by simp only [quiet, ev_set, e5] <;> rfl) rfl rfl ?_
      refine take_q (v := .ptr bl (k * 2)) rfl rfl rfl (by simp only [quiet, ev_set, hv]; exact congrArg one (idIdx hkl)) rfl rfl ?_
      refine take_q (v := .ptr bl (k * 2 + 1)) rfl rfl rfl rfl rfl rfl ?_
      refine take_f (v := .lit (.int .i64 x.2)) (fact := .cells bl (k * 2 + 1) [.lit (.int .i64 x.2)]) rfl rfl rfl (by simp only [quiet, ev_set]; exact load_rowc hbl_1.get hc1) rfl rfl ?_
      refine take_q (v := .ptr B 1) rfl rfl rfl (by simp only [quiet, ev_set, e3] <;> rfl) rfl rfl ?_
      refine take_f (v := .lit (.int .i64 n)) (fact := .cells B 1 [.lit (.int .i64 n)]) rfl rfl rfl (by simp only [quiet, ev_set]; exact load_cell rfl hB_1.get rfl) rfl rfl ?_
      refine take_q (v := .lit (.bool false)) rfl rfl rfl (by simp only [quiet, ev_set]; exact congrArg one (geqF h3)) rfl rfl ?_
      refine take_q (v := .lit (.bool false)) rfl rfl rfl rfl rfl rfl ?_
      rfl) (by rfl) (by rfl) ?_
    refine runs_cond false rfl ?_
    refine runs_skip ?_
    exact ⟨_, _, _, (slots3 (by simp only [ev_set] <;> rfl) (by simp only [ev_set] <;> rfl) (by simp only [ev_set] <;> rfl)), k1, .inl ⟨by simp only [hit, hm, decide_eq_false h3, Bool.and_false], rfl⟩⟩
  refine runs_seq ?_
  refine runs_drawn (ops := rhOps) rfl ?_
  have t_rhOps_0_1 : Nat.testBit (descOf 0 rhOps.toList 0 0) 1 = true := rfl
  refine drawn_c (i := 1) (f := 27) (args := [.agg [.lit (.int .i64 a), .lit (.int .i64 n)]]) (m' := 1) (held' := [⟨descOf 0 rhOps.toList 0 0, [.cells B 0 [.lit (.int .i64 a), .lit (.int .i64 n)]], none⟩]) (hp := h) (by
    refine take_f (v := .agg [.lit (.int .i64 a), .lit (.int .i64 n)]) (fact := .cells B 0 [.lit (.int .i64 a), .lit (.int .i64 n)]) rfl rfl rfl (by simp only [quiet, e3]; exact load_cut rfl rfl hB.get rfl) rfl rfl ?_
    refine take_loud rfl rfl rfl rfl rfl ?_
    refine take_wait rfl rfl ?_
    refine take_wait rfl rfl ?_
    refine take_wait rfl rfl ?_
    refine take_wait rfl rfl ?_
    refine take_wait rfl rfl ?_
    refine take_wait rfl rfl ?_
    refine take_wait rfl rfl ?_
    refine take_wait rfl rfl ?_
    refine take_wait rfl rfl ?_
    refine take_wait rfl rfl ?_
    refine take_wait rfl rfl ?_
    refine take_wait rfl rfl ?_
    refine take_wait rfl rfl ?_
    refine take_wait rfl rfl ?_
    refine take_wait rfl rfl ?_
    refine take_wait rfl rfl ?_
    refine take_wait rfl rfl ?_
    refine take_wait rfl rfl ?_
    refine take_wait rfl rfl ?_
    refine take_wait rfl rfl ?_
    rfl) (by rfl) (by rfl) (by rfl) (clone_body Tryz.func27 rfl) rfl rfl ?_
  refine ((rmay_runs Γ a n h).mono fun r hr => (⟨hr.1.trans (by rw [hm]), hr.2⟩ : Tells h (.lit (.bool true)) r)).mono ?_
  rintro ⟨ex1, fr1, H1, v1⟩ ⟨hv1, k1⟩
  have hv1 : v1 = .lit (.bool true) := hv1
  subst hv1
  have k1 : Kept h.next h H1 := k1
  have hB_1 := hB.kept k1
  have hbl_1 := hbl.kept k1
  refine ⟨_, rfl, (by simp only [factsStand, t_rhOps_0_1, cond_true, List.all_cons, List.all_nil, Bool.and_true]), ?_⟩
  rw [show drop 1 [⟨descOf 0 rhOps.toList 0 0, [.cells B 0 [.lit (.int .i64 a), .lit (.int .i64 n)]], none⟩] = [] from by simp only [drop, t_rhOps_0_1, cond_true]]
  refine drawn_end (m' := 4194303) (held' := [⟨descOf 19 rhOps.toList 0 0, [.cells B 1 [.lit (.int .i64 n)]], none⟩, ⟨descOf 17 rhOps.toList 0 0, [.cells bl (k * 2 + 1) [.lit (.int .i64 x.2)]], none⟩, ⟨descOf 9 rhOps.toList 0 0, [.cells B 0 [.lit (.int .i64 a)]], none⟩, ⟨descOf 7 rhOps.toList 0 0, [.cells bl (k * 2 + 0) [.lit (.int .i64 x.1)]], none⟩]) (hp' := H1) (by
    refine take_done rfl ?_
    refine take_done rfl ?_
    refine take_q (v := .lit (.bool true)) rfl rfl rfl rfl rfl rfl ?_
    refine take_q (v := v) rfl rfl rfl (by simp only [quiet, ev_set, e0] <;> rfl) rfl rfl ?_
    refine take_q (v := .lit (.int .i64 (Int.ofNat k))) rfl rfl rfl (by simp only [quiet, ev_set, e5] <;> rfl) rfl rfl ?_
    refine take_q (v := .ptr bl (k * 2)) rfl rfl rfl (by simp only [quiet, ev_set, hv]; exact congrArg one (idIdx hkl)) rfl rfl ?_
    refine take_q (v := .ptr bl (k * 2 + 0)) rfl rfl rfl rfl rfl rfl ?_
    refine take_f (v := .lit (.int .i64 x.1)) (fact := .cells bl (k * 2 + 0) [.lit (.int .i64 x.1)]) rfl rfl rfl (by simp only [quiet, ev_set]; exact load_rowc hbl_1.get hc0) rfl rfl ?_
    refine take_q (v := .ptr B 0) rfl rfl rfl (by simp only [quiet, ev_set, e3] <;> rfl) rfl rfl ?_
    refine take_f (v := .lit (.int .i64 a)) (fact := .cells B 0 [.lit (.int .i64 a)]) rfl rfl rfl (by simp only [quiet, ev_set]; exact load_cell rfl hB_1.get rfl) rfl rfl ?_
    refine take_q (v := .lit (.bool true)) rfl rfl rfl (by simp only [quiet, ev_set]; exact congrArg one (eqlT h2)) rfl rfl ?_
    refine take_q (v := .lit (.bool true)) rfl rfl rfl rfl rfl rfl ?_
    refine take_q (v := .lit (.bool true)) rfl rfl rfl rfl rfl rfl ?_
    refine take_q (v := v) rfl rfl rfl (by simp only [quiet, ev_set, e0] <;> rfl) rfl rfl ?_
    refine take_q (v := .lit (.int .i64 (Int.ofNat k))) rfl rfl rfl (by simp only [quiet, ev_set, e5] <;> rfl) rfl rfl ?_
    refine take_q (v := .ptr bl (k * 2)) rfl rfl rfl (by simp only [quiet, ev_set, hv]; exact congrArg one (idIdx hkl)) rfl rfl ?_
    refine take_q (v := .ptr bl (k * 2 + 1)) rfl rfl rfl rfl rfl rfl ?_
    refine take_f (v := .lit (.int .i64 x.2)) (fact := .cells bl (k * 2 + 1) [.lit (.int .i64 x.2)]) rfl rfl rfl (by simp only [quiet, ev_set]; exact load_rowc hbl_1.get hc1) rfl rfl ?_
    refine take_q (v := .ptr B 1) rfl rfl rfl (by simp only [quiet, ev_set, e3] <;> rfl) rfl rfl ?_
    refine take_f (v := .lit (.int .i64 n)) (fact := .cells B 1 [.lit (.int .i64 n)]) rfl rfl rfl (by simp only [quiet, ev_set]; exact load_cell rfl hB_1.get rfl) rfl rfl ?_
    refine take_q (v := .lit (.bool true)) rfl rfl rfl (by simp only [quiet, ev_set]; exact congrArg one (geqT h3)) rfl rfl ?_
    refine take_q (v := .lit (.bool true)) rfl rfl rfl rfl rfl rfl ?_
    rfl) (by rfl) (by rfl) ?_
  refine runs_cond true rfl ?_
  refine runs_seq ?_
  refine runs_region ?_
  refine ops_q (v := .lit (.bool true)) (fs := []) rfl rfl rfl rfl ?_
  refine ops_nil ?_
  refine runs_ret ?_
  exact ⟨_, _, _, (slots3 (by simp only [ev_set] <;> rfl) (by simp only [ev_set] <;> rfl) (by simp only [ev_set] <;> rfl)), k1, .inr ⟨by simp only [hit, hm, decide_eq_true h2, decide_eq_true h3, Bool.and_self], rfl, by simp only [ev_set] <;> rfl⟩⟩

set_option maxHeartbeats 8000000 in
set_option maxRecDepth 20000 in
theorem rh_loop (Γ : Glob) (B : Nat) (a n : Int) (r : List (Int × Int)) (hr0 : r.length ≤ 1000000) (v : SV) (lo : Nat) : ∀ (rem k : Nat), k + rem = r.length → ∀ (tm : T SV) (h : Hp), Fr.ev ⟨tm, 34, []⟩ (.tmp 0) = v → Fr.ev ⟨tm, 34, []⟩ (.tmp 3) = .ptr B 0 → Fr.ev ⟨tm, 34, []⟩ (.tmp 5) = .lit (.int .i64 (Int.ofNat k)) → At h B (.cells [.lit (.int .i64 a), .lit (.int .i64 n)] 44) → IdR h lo v r →
    Runs Tryz.prog Γ (.code rhLoop none ⟨tm, 34, []⟩ h) fun o => ∃ tm' h' v0, Kept h.next h h' ∧ ((r.drop k).any (hit (a, n)) = false ∧ o = ⟨.exit 0, ⟨tm', 34, []⟩, h', v0⟩ ∨ (r.drop k).any (hit (a, n)) = true ∧ o = ⟨.ret, ⟨tm', 34, []⟩, h', v0⟩ ∧ Fr.ev ⟨tm', 34, []⟩ (.tmp 4) = .lit (.bool true)) := by
  intro rem
  induction rem with
  | zero =>
    intro k hk tm h e0 e3 e5 hB hr
    obtain rfl : k = r.length := by omega
    refine runs_loop ?_
    refine runs_seq (runs_seq (runs_region ?_))
    refine ops_q (v := .lit (.int .i64 (Int.ofNat r.length))) (fs := []) rfl (by simp only [quiet, e5]) rfl rfl ?_
    refine ops_q (v := v) (fs := []) rfl (by simp only [quiet, ev_set, e0] <;> rfl) rfl rfl ?_
    refine ops_q (v := .lit (.int .i64 (Int.ofNat r.length))) (fs := []) rfl (by simp only [quiet]; exact hr.len _) rfl rfl ?_
    refine ops_q (v := .lit (.bool false)) (fs := []) rfl (by simp only [quiet, ev_set]; exact congrArg one (lssF (Int.lt_irrefl _))) rfl rfl ?_
    refine ops_nil ?_
    refine runs_cond false rfl (runs_exit ?_)
    exact ⟨_, _, _, Kept.refl _ _, .inl ⟨by rw [List.drop_length]; rfl, rfl⟩⟩
  | succ rem ih =>
    intro k hk tm h e0 e3 e5 hB hr
    have hkl : k < r.length := by omega
    have hd : r[k]? = some r[k] := List.getElem?_eq_getElem hkl
    have hdr : r.drop k = r[k] :: r.drop (k + 1) := List.drop_eq_getElem_cons hkl
    rw [hdr]
    generalize r[k] = x at hd
    refine runs_loop ?_
    refine runs_seq (runs_seq (runs_region ?_))
    refine ops_q (v := .lit (.int .i64 (Int.ofNat k))) (fs := []) rfl (by simp only [quiet, e5]) rfl rfl ?_
    refine ops_q (v := v) (fs := []) rfl (by simp only [quiet, ev_set, e0] <;> rfl) rfl rfl ?_
    refine ops_q (v := .lit (.int .i64 (Int.ofNat r.length))) (fs := []) rfl (by simp only [quiet]; exact hr.len _) rfl rfl ?_
    refine ops_q (v := .lit (.bool true)) (fs := []) rfl (by simp only [quiet, ev_set]; exact congrArg one (lssT (Int.ofNat_lt.2 hkl))) rfl rfl ?_
    refine ops_nil ?_
    refine runs_cond true rfl (runs_skip ?_)
    refine runs_seq (runs_block ((rh_body Γ B a n r v lo k x _ h (by simp only [ev_set]; exact e0) (by simp only [ev_set]; exact e3) (by simp only [ev_set]; exact e5) hB hr hd).mono ?_))
    rintro o ⟨tm', h', v0, hs, hk', hcase⟩
    rcases hcase with ⟨hh, rfl⟩ | ⟨hh, rfl, h4⟩
    · rw [show ∀ fr hp v, atEnd 1 ⟨.normal, fr, hp, v⟩ = ⟨.normal, fr, hp, v⟩ from fun _ _ _ => rfl]
      have s0 := hs 0 (by decide)
      have s3 := hs 3 (by decide)
      have s5 := hs 5 (by decide)
      simp only [ev_set] at s0 s3 s5
      have s0 : Fr.ev ⟨tm', 34, []⟩ (.tmp 0) = v := s0.trans e0
      have s3 : Fr.ev ⟨tm', 34, []⟩ (.tmp 3) = .ptr B 0 := s3.trans e3
      have s5 : Fr.ev ⟨tm', 34, []⟩ (.tmp 5) = .lit (.int .i64 (Int.ofNat k)) := s5.trans e5
      refine runs_region ?_
      refine ops_q (v := .lit (.int .i64 (Int.ofNat k))) (fs := []) rfl (by simp only [quiet, s5]) rfl rfl ?_
      refine ops_q (v := .lit (.int .i64 (Int.ofNat (k + 1)))) (fs := []) rfl (by simp only [quiet, ev_set]; exact congrArg one (addQ (c := Int.ofNat (k + 1)) rfl (by simp only [Int.ofNat_eq_natCast]; omega) (by simp only [Int.ofNat_eq_natCast]; omega))) rfl rfl ?_
      refine ops_q (v := .lit (.int .i64 (Int.ofNat (k + 1)))) (fs := []) rfl rfl rfl rfl ?_
      refine ops_nil ?_
      refine (ih (k + 1) (by omega) _ h' ?_ ?_ ?_ (hB.kept hk') (hr.kept hk')).mono ?_
      · simp only [ev_set]; exact s0
      · simp only [ev_set]; exact s3
      · simp only [ev_set]; rfl
      · rintro o ⟨tm2, h2, v2, q1, q2⟩
        refine ⟨tm2, h2, v2, hk'.then q1, ?_⟩
        rw [List.any_cons, hh, Bool.false_or]
        exact q2
    · rw [show ∀ fr hp v, atEnd 1 ⟨.ret, fr, hp, v⟩ = ⟨.ret, fr, hp, v⟩ from fun _ _ _ => rfl]
      exact ⟨_, _, _, hk', .inr ⟨by rw [List.any_cons, hh, Bool.true_or], rfl, h4⟩⟩

set_option maxHeartbeats 8000000 in
set_option maxRecDepth 20000 in
theorem rhas_runs (Γ : Glob) (a n : Int) (r : List (Int × Int)) (hr0 : r.length ≤ 1000000) (ha : Asc r) (v : SV) (lo : Nat) (h : Hp) (hr : IdR h lo v r) : Runs Tryz.prog Γ (.call 28 [v, .agg [.lit (.int .i64 a), .lit (.int .i64 n)]] h) (Tells h (.lit (.bool (has r (a, n))))) := by
  rw [has_hit ha]
  refine runs_call Tryz.func28 rfl ?_
  refine runs_seq ?_
  refine runs_region ?_
  refine ops_box (cs := [.lit (.int .i64 a), .lit (.int .i64 n)]) rfl rfl rfl rfl rfl (fun H1 g1 k1 n1 => ?_)
  have hr_1 := hr.kept k1
  refine ops_q (v := .lit (.bool false)) (fs := []) rfl rfl rfl rfl ?_
  refine ops_nil ?_
  refine runs_seq (runs_seq ?_)
  refine runs_region ?_
  refine ops_q (v := .lit (.int .i64 (Int.ofNat 0))) (fs := []) rfl rfl rfl rfl ?_
  refine ops_nil ?_
  refine runs_block ((rh_loop Γ h.next a n r hr0 v lo r.length 0 (Nat.zero_add _) _ H1 rfl rfl rfl g1 hr_1).mono ?_)
  rintro o ⟨tm', h', v0, hk, ⟨hh, rfl⟩ | ⟨hh, rfl, h4⟩⟩
  · rw [show ∀ fr hp v, atEnd 0 ⟨.exit 0, fr, hp, v⟩ = ⟨.normal, fr, hp, v⟩ from fun _ _ _ => rfl]
    rw [List.drop_zero] at hh
    rw [hh]
    refine runs_seq ?_
    refine runs_region ?_
    refine ops_q (v := .lit (.bool false)) (fs := []) rfl rfl rfl rfl ?_
    refine ops_nil ?_
    refine runs_ret ?_
    exact ⟨_, leave_marks (t := 4) (ms := []) rfl rfl (by simp only [ev_set] <;> rfl), rfl, k1.then hk⟩
  · rw [show ∀ fr hp v, atEnd 0 ⟨.ret, fr, hp, v⟩ = ⟨.ret, fr, hp, v⟩ from fun _ _ _ => rfl]
    rw [List.drop_zero] at hh
    rw [hh]
    exact ⟨_, leave_marks (t := 4) (ms := []) rfl rfl h4, rfl, k1.then hk⟩

end Go.Proofs.YtjilmneaeocimaaGreatDoor.snap
