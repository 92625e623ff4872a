/-
  'slices.Insert' OF ONE ELEMENT AHEAD OF TWO (Bool), where there is room; by the author of this claim, in the kit's walk; the turning round by the author's own evaluator.
-/
import Derived.Test.YtpfagdkpolhopaaGreatDoorSnH
namespace Go.Proofs.YtpfagdkpolhopaaGreatDoor.sheetNew
open Go Go.RowKit Go.Proofs.YtpfagdkpolhopaaGreatDoor.Ev

noncomputable def rotHpBool : Hp := ⟨T.leaf.set 0 (.row [.opq 10, .opq 11, .opq 12] 4 3 1 1), 20⟩
def rotOkBool (o : Out) : Bool := match o.hp.objs.get 0 with
  | some (.row l e k cv s) => SV.sameL l [.opq 12, .opq 10, .opq 11] && Nat.beq e 4 && Nat.beq k 3 && Nat.beq cv 1 && Nat.beq s 1
  | _ => false
def rotAllBool (r : R) : Bool := match r with
  | some outs => outs.all rotOkBool
  | none => false
theorem rotSomeBool {r : R} (h : rotAllBool r = true) : ∃ outs, r = some outs ∧ outs.all rotOkBool = true := by
  cases r with
  | none => cases h
  | some outs => exact ⟨outs, rfl, h⟩
set_option maxRecDepth 100000 in
theorem rotRunsBool : rotAllBool (run Tryz.prog .leaf 300 (.call 76 [.row 0 0 3 3 1, .lit (.int .i64 1)] rotHpBool)) = true := by kernel_rfl
theorem rotBool (b c : Nat) (x0 x1 y0 : Value) (ex : List Value) (w : World) (fr : Nat × Nat) (hc : 3 ≤ c) (hl : 3 + ex.length = c * 1) (hb : w.heap[b]? = some (.cells (x0 :: x1 :: y0 :: ex).toArray 4 fr)) (hfb : frOk fr (3 + ex.length)) (hone : ∀ v ∈ [x0, x1, y0], v.oneCell' = true) :
    Calls Tryz.prog 76 #[.slice (some ⟨b, 0, none⟩) 3 c, .int .i64 1] w fun q w' => (∃ v, q = .returned v) ∧ ∃ fr1 ex1, ex1.length = ex.length ∧ frOk fr1 (3 + ex.length) ∧ Below w.heap.size (setB w b (.cells (y0 :: x0 :: x1 :: ex1).toArray 4 fr1)) w' := by
  obtain ⟨outs, ho, hall⟩ := rotSomeBool rotRunsBool
  have hlt : b < w.heap.size := (Array.getElem?_eq_some_iff.1 hb).1
  let θ : Ren := ⟨fun _ => b, fun _ => c - 3, fun _ => 0, fun i => if i = 10 then x0 else if i = 11 then x1 else if i = 12 then y0 else .bool false⟩
  have hget : ∀ b' o, rotHpBool.objs.get b' = some o → b' = 0 ∧ o = .row [.opq 10, .opq 11, .opq 12] 4 3 1 1 := fun b' o h => by
    unfold rotHpBool at h
    rw [show (Hp.mk (T.leaf.set 0 (.row [.opq 10, .opq 11, .opq 12] 4 3 1 1)) 20).objs = T.leaf.set 0 (.row [.opq 10, .opq 11, .opq 12] 4 3 1 1) from rfl, T.get_set] at h
    by_cases e : b' = 0
    · rw [if_pos e] at h; exact ⟨e, (Option.some.inj h).symm⟩
    · rw [if_neg e] at h; cases h
  have hrep : Rep (.plain .leaf) (fun k => k < w.heap.size ∧ k ≠ b) w θ (· < 20) rotHpBool w := by
    refine ⟨rfl, rfl, rfl, Nat.le_refl _, fun _ _ => rfl, fun _ h => h.1, fun g cs h => (by cases h), fun b' o h => ?_, fun b1 b2 o1 o2 h1 h2 _ => (hget b1 o1 h1).1.trans (hget b2 o2 h2).1.symm, fun i hi => Nat.not_lt.2 hi, trivial⟩
    obtain ⟨rfl, rfl⟩ := hget b' o h
    refine ⟨by decide, fun h => h.2 rfl, ⟨by simp [SV.okL, SV.ok], by decide⟩, _, hb, fr, ex, ?_, ?_, ?_⟩
    · have := fun v hv => oneOf_one (hone v hv)
      simp only [List.mem_cons, List.not_mem_nil, or_false, forall_eq_or_imp, forall_eq] at this
      simp [concL, conc, θ, this]
    · simpa using hfb
    · show 3 + ex.length = (3 + (c - 3)) * 1
      rw [hl, Nat.add_sub_cancel' hc]
  have hcalls := ((run_sound (Γ := .plain .leaf) noCount mixed 300).1.call 76 _ rotHpBool outs ho).2 _ w θ _ w hrep ⟨⟨by decide, by decide⟩, trivial, trivial⟩
  have hargs : (concL θ [.row 0 0 3 3 1, .lit (.int .i64 1)]).toArray = #[.slice (some ⟨b, 0, none⟩) 3 c, .int .i64 1] := by
    simp only [concL, conc, θ, Nat.add_sub_cancel' hc]
  rw [hargs] at hcalls
  refine (callsIn_wide.1 hcalls).mono ?_
  rintro q w' ⟨o, hm, θ', K', hg, hq, _, hr'⟩
  have hok := List.all_eq_true.1 hall o hm
  unfold rotOkBool at hok
  split at hok
  · rename_i l e k cv s hobj
    simp only [Bool.and_eq_true] at hok
    obtain ⟨⟨⟨⟨hs1, hs2⟩, hs3⟩, hs4⟩, hs5⟩ := hok
    obtain rfl := sameL_eq _ _ hs1
    obtain rfl := Nat.eq_of_beq_eq_true hs2
    obtain rfl := Nat.eq_of_beq_eq_true hs3
    obtain rfl := Nat.eq_of_beq_eq_true hs4
    obtain rfl := Nat.eq_of_beq_eq_true hs5
    obtain ⟨k1, k2, k3, ob, k4, fr1, ex1, rfl, k6, k7⟩ := hr'.obj _ _ hobj
    have hblk : θ'.blk 0 = b := (hg.ext.blk 0 (by decide)).trans rfl
    have hcap : θ'.cap 1 = c - 3 := (hg.ext.cap 1 (by decide)).trans rfl
    have hopq : ∀ i, i < 20 → θ'.opq i = θ.opq i := fun i hi => hg.ext.opq i hi
    have hll : ([.opq 12, .opq 10, .opq 11] : List SV).length = 3 := rfl
    rw [hcap, Nat.add_sub_cancel' hc, ← hl, hll] at k7
    have hel : ex1.length = ex.length := by omega
    rw [hblk] at k4
    have hcs : concL θ' [.opq 12, .opq 10, .opq 11] ++ ex1 = y0 :: x0 :: x1 :: ex1 := by
      have := fun v hv => oneOf_one (hone v hv)
      simp only [List.mem_cons, List.not_mem_nil, or_false, forall_eq_or_imp, forall_eq] at this
      simp only [concL, conc]
      simp only [hopq 10 (by decide), hopq 11 (by decide), hopq 12 (by decide)]
      simp [θ, this]
    rw [hcs] at k4
    refine ⟨⟨_, hq⟩, fr1, ex1, hel, by rw [hll, hel] at k6; exact k6, hr'.os, hr'.tape, hr'.output, by rw [size_setB]; exact hr'.size, fun k hk => ?_⟩
    by_cases e : k = b
    · rw [e, k4, setB_same hb]
    · rw [setB_get, if_neg (fun h => e h.1)]
      exact hr'.kept k ⟨hk, e⟩
  · cases hok

set_option maxHeartbeats 4000000 in
set_option maxRecDepth 100000 in
theorem roomBool (b c vb : Nat) (x0 x1 z0 y0 : Value) (ex : List Value) (w : World) (e' : TypeId) (fr fr' : Nat × Nat) (hne : vb ≠ b) (hc : 3 ≤ c) (hl : 3 + ex.length = c * 1)
    (hb : w.heap[b]? = some (.cells (x0 :: x1 :: z0 :: ex).toArray 4 fr)) (hfb : frOk fr (3 + ex.length)) (hv : w.heap[vb]? = some (.cells ([y0] : List Value).toArray e' fr')) (hfv : frOk fr' 1)
    (hone : ∀ v ∈ [x0, x1, y0], v.oneCell' = true) :
    Calls Tryz.prog 47 #[.slice (some ⟨b, 0, none⟩) 2 c, .int .i64 0, .slice (some ⟨vb, 0, none⟩) 1 1] w fun q w' =>
      q = .returned (.slice (some ⟨b, 0, none⟩) 3 c) ∧ Turned w b 3 ex.length [y0, x0, x1] 4 w' := by
  have hu : tyU Tryz.prog 81 = some (.slice 4) := by kernel_rfl
  have hs : tySize Tryz.prog 4 = some 1 := by kernel_rfl
  have hox : ∀ v ∈ [x0, x1], v.oneCell' = true := fun v hv => hone v (by simp only [List.mem_cons, List.not_mem_nil, or_false] at hv ⊢; first | exact .inl hv | (rcases hv with h | h <;> simp [h]) | (rcases hv with h | h | h | h <;> simp [h]) | simp [hv])
  have hoy : ∀ v ∈ [y0], v.oneCell' = true := fun v hv => hone v (by simp only [List.mem_cons, List.not_mem_nil, or_false] at hv ⊢; first | exact .inl hv | (rcases hv with h | h <;> simp [h]) | (rcases hv with h | h | h | h <;> simp [h]) | simp [hv])
  have hov0 : ∀ x : Nat × Nat, ∃ r : Bool × World, (callFunc 75 #[.slice (some ⟨vb, 0, none⟩) 1 1, .slice (some ⟨b, 1, none⟩) x.1 x.2]).run Tryz.prog w = .ok (.value (.bool r.1)) r.2 ∧ r.2.heap = w.heap ∧ r.2.os = w.os ∧ r.2.tape = w.tape ∧ r.2.output = w.output := fun ⟨lb, cb⟩ => by
    obtain ⟨t, w', h1, h2⟩ := overlaps_any (P := Tryz.prog) w 81 4 4 1 hu hs vb b 1 1 lb cb 1 hne _ _ e' 4 fr' fr hv hb hfv (by simp) (by simp)
    refine ⟨(t, w'), ?_, h2⟩
    rw [run_callFunc_extern Tryz.func75 (by kernel_rfl) (by kernel_rfl) (by kernel_rfl) (e := Extern.SlicesOverlaps.overlaps #[81, 81] #[4]) (by kernel_rfl), h1]
    rfl
  obtain ⟨R, hR⟩ := Classical.axiomOfChoice hov0
  clear hov0
  have hov1 : ∀ lb cb, (callFunc 75 #[.slice (some ⟨vb, 0, none⟩) 1 1, .slice (some ⟨b, 1, none⟩) lb cb]).run Tryz.prog w = .ok (.value (.bool (R (lb, cb)).1)) (R (lb, cb)).2 := fun lb cb => (hR (lb, cb)).1
  obtain ⟨_, r1, r2, r3, r4⟩ := hR (2, c - 1)
  obtain ⟨W, hW⟩ : ∃ W, W = (R (2, c - 1)).2 := ⟨_, rfl⟩
  rw [← hW] at r1 r2 r3 r4
  have hcpH : ∀ (W : World), W.heap = w.heap → ∀ ty dc, (Builtin.copy_ #[81, 81] ty #[.slice (some ⟨b, 2, none⟩) 1 dc, .slice (some ⟨vb, 0, none⟩) 1 1]).run Tryz.prog W = .ok (goInt 1) (setB W b (.cells (x0 :: x1 :: y0 :: ex).toArray 4 fr)) := fun W hW ty dc =>
    copy_any W _ _ ty 4 1 b 2 1 dc vb 0 1 1 1 (x0 :: x1 :: z0 :: ex) [y0] 4 fr hu hs rfl (load_any W vb 0 _ [y0] [y0] e' fr' (by rw [hW]; exact hv) rfl rfl) (by rw [hW]; exact hb) (by simp) (by rw [Nat.add_comm] at hfb; exact hfb) hoy
  have hcp1 : ∀ (W : World), W.heap = w.heap → ∀ ty dc sc, (Builtin.copy_ #[81, 81] ty #[.slice (some ⟨b, 1, none⟩) 2 dc, .slice (some ⟨b, 0, none⟩) 3 sc]).run Tryz.prog W = .ok (goInt 2) (setB W b (.cells (x0 :: x0 :: x1 :: ex).toArray 4 fr)) := fun W hW ty dc sc =>
    copy_any W _ _ ty 4 1 b 1 2 dc b 0 3 sc 2 (x0 :: x1 :: z0 :: ex) [x0, x1] 4 fr hu hs rfl (load_any W b 0 _ (x0 :: x1 :: z0 :: ex) [x0, x1] 4 fr (by rw [hW]; exact hb) rfl rfl) (by rw [hW]; exact hb) (by simp) (by rw [Nat.add_comm] at hfb; exact hfb) hox
  have hcp2 : ∀ (W : World), W.heap[b]? = some (.cells (x0 :: x0 :: x1 :: ex).toArray 4 fr) → W.heap[vb]? = some (.cells ([y0] : List Value).toArray e' fr') → ∀ ty dc, (Builtin.copy_ #[81, 81] ty #[.slice (some ⟨b, 0, none⟩) 3 dc, .slice (some ⟨vb, 0, none⟩) 1 1]).run Tryz.prog W = .ok (goInt 1) (setB W b (.cells (y0 :: x0 :: x1 :: ex).toArray 4 fr)) := fun W h1 h2 ty dc =>
    copy_any W _ _ ty 4 1 b 0 3 dc vb 0 1 1 1 (x0 :: x0 :: x1 :: ex) [y0] 4 fr hu hs rfl (load_any W vb 0 _ [y0] [y0] e' fr' h2 rfl rfl) h1 (by simp) (by rw [Nat.add_comm] at hfb; exact hfb) hoy
  have hd : W.drew.heap = w.heap := r1
  have hb1 : (setB W.drew b (.cells (x0 :: x0 :: x1 :: ex).toArray 4 fr)).heap[b]? = some (.cells (x0 :: x0 :: x1 :: ex).toArray 4 fr) := setB_same (by rw [hd]; exact hb)
  have hv1 : (setB W.drew b (.cells (x0 :: x0 :: x1 :: ex).toArray 4 fr)).heap[vb]? = some (.cells ([y0] : List Value).toArray e' fr') := by rw [setB_get, if_neg (fun h => hne h.1), hd]; exact hv
  have hbH : (setB W b (.cells (x0 :: x1 :: y0 :: ex).toArray 4 fr)).heap[b]? = some (.cells (x0 :: x1 :: y0 :: ex).toArray 4 fr) := setB_same (by rw [r1]; exact hb)
  have hrot := rotBool b c x0 x1 y0 ex (setB W b (.cells (x0 :: x1 :: y0 :: ex).toArray 4 fr)) fr hc hl hbH hfb hone
  have hc1 : ¬ ((c : Int) < 3) := by omega
  have hc2 : ¬ (c = 1) := by omega
  have hc3 : ¬ (c = 0) := by omega
  have hc4 : ¬ (c = 2) := by omega
  have hszw : w.heap.size = W.heap.size := by rw [r1]
  have hw1 : IntKind.i64.wrap 1 = 1 := by decide
  subst hW
  go_enter Tryz.func47, Tryz.ntmps47
  go_wp2_with (first
    | simp only [hov1]
    | (at_builtin; refine Go.Proofs.wpList_copy_runI _ rfl _ _ 81 81 rfl _ _ rfl rfl (hcpH _ r1 _ _) ?_)
    | (go_at_call 76; refine hrot.mono ?_; rintro q w' ⟨⟨v, rfl⟩, fr1, ex1, h1, h2, h3⟩))
  · go_region_law (refine Go.Proofs.step_copy_runI rfl _ _ 81 81 rfl (.slice (some ⟨b, 1, none⟩) 2 (c - 1)) (.slice (some ⟨b, 0, none⟩) 3 c) (by simp [Act.eval, Act.put]) (by simp [Act.eval, Act.put]) (hcp1 (R (2, c - 1)).2.drew r1 3 (c - 1) c) ?_)
    go_wp2_with (at_builtin; refine Go.Proofs.wpList_copy_runI _ rfl _ _ 81 81 rfl _ _ rfl rfl (hcp2 (setB (R (2, c - 1)).2.drew b (.cells (x0 :: x0 :: x1 :: ex).toArray 4 fr)) hb1 hv1 _ _) ?_)
    go_ret
    exact ⟨rfl, fr, ex, rfl, hfb, below_swap r2 r3 r4 r1⟩
  · go_ret
    refine ⟨rfl, fr1, ex1, h1, by simpa only [hl] using h2, ?_⟩
    have h3 := h3
    simp only [setB_setB, size_setB] at h3
    rw [hszw]
    exact below_turned r2 r3 r4 r1 h3

set_option maxHeartbeats 4000000 in
set_option maxRecDepth 100000 in
theorem growBool (b vb : Nat) (x0 x1 y0 : Value) (w : World) (e' : TypeId) (fr fr' : Nat × Nat)
    (hb : w.heap[b]? = some (.cells ([x0, x1] : List Value).toArray 4 fr)) (hv : w.heap[vb]? = some (.cells ([y0] : List Value).toArray e' fr'))
    (hone : ∀ v ∈ [x0, x1, y0], v.oneCell' = true) :
    Calls Tryz.prog 47 #[.slice (some ⟨b, 0, none⟩) 2 2, .int .i64 0, .slice (some ⟨vb, 0, none⟩) 1 1] w fun q w' =>
      GrownTo w [y0, x0, x1] 4 1 q w' := by
  have hu : tyU Tryz.prog 81 = some (.slice 4) := by kernel_rfl
  have hs : tySize Tryz.prog 4 = some 1 := by kernel_rfl
  have hox : ∀ v ∈ [x0, x1], v.oneCell' = true := fun v hv => hone v (by simp only [List.mem_cons, List.not_mem_nil, or_false] at hv ⊢; first | exact .inl hv | (rcases hv with h | h <;> simp [h]) | (rcases hv with h | h | h | h <;> simp [h]) | simp [hv])
  have hoy : ∀ v ∈ [y0], v.oneCell' = true := fun v hv => hone v (by simp only [List.mem_cons, List.not_mem_nil, or_false] at hv ⊢; first | exact .inl hv | (rcases hv with h | h <;> simp [h]) | (rcases hv with h | h | h | h <;> simp [h]) | simp [hv])
  have hbw : b < w.heap.size := (Array.getElem?_eq_some_iff.1 hb).1
  have hvw : vb < w.heap.size := (Array.getElem?_eq_some_iff.1 hv).1
  obtain ⟨i0, z, hi0, hz0, hzs, hzb, hzl⟩ : ∃ (i : TypeInfo) (z : Value), Tryz.prog.info? 4 = some i ∧ i.zero = some z ∧ i.size = 1 ∧ i.bytes ≤ 1000 ∧ z.cells.size = 1 := ⟨_, _, rfl, rfl, rfl, by decide, rfl⟩
  have hold : (Builtin.firstCells i0.size 0 (.slice (some ⟨b, 0, none⟩) 0 2)).run Tryz.prog w.drew = .ok ([] : List Value).toArray w.drew := by
    simp only [Builtin.firstCells, Nat.zero_mul]
    exact load_any w.drew b 0 0 _ [] 4 fr hb rfl rfl
  obtain ⟨G, hG⟩ : ∃ G, G = grownCap w 3 2 4 := ⟨_, rfl⟩
  have hG3 : 3 ≤ G := by rw [hG]; exact grownCap_ge w _ _ _
  obtain ⟨ROW, hROW⟩ : ∃ ROW : Array Value, ROW = ([] : List Value).toArray ++ Builtin.zeroCells z.cells 3 ++ Builtin.zeroCells z.cells (G - 3) := ⟨_, rfl⟩
  have hrz : ∀ ty, (Builtin.append_ #[81, 3] ty #[.slice (some ⟨b, 0, none⟩) 0 2, .int .i64 3]).run Tryz.prog w = .ok (.slice (some ⟨w.heap.size, 0, none⟩) 3 G) (w.drew.alloc (.cells ROW 4)) := fun ty => by
    have h := Lib.run_append_grow_zeros (P := Tryz.prog) w 81 3 ty 4 i0 z .i64 .i64 (by kernel_rfl) (by kernel_rfl) hi0 hz0 (some ⟨b, 0, none⟩) 0 2 [] hold 3 (by omega) (by omega) (by omega) (by omega) (by omega) (by
      have : Builtin.nextslicecap (0 + 3) 2 = 4 := by decide
      rw [this]; omega)
    rw [hROW, hG]
    exact h
  have hRl : ROW.toList.length = 3 * 1 + (G - 3) * 1 := by
    rw [hROW]
    simp [Builtin.zeroCells, hzl]
    try omega
  obtain ⟨L, hL⟩ : ∃ L : List Value, L = ROW.toList := ⟨_, rfl⟩
  have hRL : ROW = L.toArray := by rw [hL]
  rw [← hL] at hRl
  clear hROW hL
  subst hRL
  have hN : ∀ (W : World), W.heap = w.heap.push (.cells L.toArray 4) → W.heap[w.heap.size]? = some (.cells L.toArray 4 (0, 0)) ∧ W.heap[b]? = some (.cells ([x0, x1] : List Value).toArray 4 fr) ∧ W.heap[vb]? = some (.cells ([y0] : List Value).toArray e' fr') := fun W hW => by
    rw [hW]
    refine ⟨by simp, ?_, ?_⟩
    · rw [Array.getElem?_push, if_neg (by omega)]; exact hb
    · rw [Array.getElem?_push, if_neg (by omega)]; exact hv
  obtain ⟨L1, hL1⟩ : ∃ L1, L1 = L.drop 1 := ⟨_, rfl⟩
  obtain ⟨L2, hL2⟩ : ∃ L2, L2 = L.drop 3 := ⟨_, rfl⟩
  have hdr : ([y0] ++ L1).drop 3 = L2 := by rw [hL1, hL2]; simp
  have hl1 : L1.length = 2 * 1 + (G - 3) * 1 := by rw [hL1, List.length_drop, hRl]; omega
  have hl2 : L2.length = (G - 3) * 1 := by rw [hL2, List.length_drop, hRl]; omega
  have hcpA : ∀ (W : World), W.heap = w.heap.push (.cells L.toArray 4) → ∀ ty dc, (Builtin.copy_ #[81, 81] ty #[.slice (some ⟨w.heap.size, 0, none⟩) 3 dc, .slice (some ⟨vb, 0, none⟩) 1 1]).run Tryz.prog W = .ok (goInt 1) (setB W w.heap.size (.cells ([y0] ++ L1).toArray 4)) := fun W hW ty dc => by
    have h := copy_any (P := Tryz.prog) W 81 81 ty 4 1 w.heap.size 0 3 dc vb 0 1 1 1 L [y0] 4 (0, 0) hu hs rfl (load_any W vb 0 _ [y0] [y0] e' fr' (hN W hW).2.2 rfl rfl) (hN W hW).1 (by simp; omega) (.inl rfl) hoy
    have h2 : L.drop (0 + ([y0] : List Value).length) = L1 := by rw [hL1]; rfl
    rw [h2] at h
    exact h
  have hcpB : ∀ (W : World), W.heap[w.heap.size]? = some (.cells ([y0] ++ L1).toArray 4 (0, 0)) → W.heap[b]? = some (.cells ([x0, x1] : List Value).toArray 4 fr) → ∀ ty dc sc, (Builtin.copy_ #[81, 81] ty #[.slice (some ⟨w.heap.size, 1, none⟩) 2 dc, .slice (some ⟨b, 0, none⟩) 2 sc]).run Tryz.prog W = .ok (goInt 2) (setB W w.heap.size (.cells ([y0, x0, x1] ++ L2).toArray 4)) := fun W h1 h2 ty dc sc => by
    have h := copy_any (P := Tryz.prog) W 81 81 ty 4 1 w.heap.size 1 2 dc b 0 2 sc 2 ([y0] ++ L1) [x0, x1] 4 (0, 0) hu hs rfl (load_any W b 0 _ [x0, x1] [x0, x1] 4 fr h2 rfl rfl) h1 (by simp; omega) (.inl rfl) hox
    have h2 : ([y0] ++ L1).drop (1 + ([x0, x1] : List Value).length) = L2 := hdr
    rw [h2] at h
    exact h
  have hA : ((w.alloc (.cells L.toArray 4)).drew).heap = w.heap.push (.cells L.toArray 4) := rfl
  have hB1 : (setB ((w.alloc (.cells L.toArray 4)).drew) w.heap.size (.cells ([y0] ++ L1).toArray 4)).drew.heap[w.heap.size]? = some (.cells ([y0] ++ L1).toArray 4 (0, 0)) := setB_same (hN _ hA).1
  have hB2 : (setB ((w.alloc (.cells L.toArray 4)).drew) w.heap.size (.cells ([y0] ++ L1).toArray 4)).drew.heap[b]? = some (.cells ([x0, x1] : List Value).toArray 4 fr) := by
    show (setB ((w.alloc (.cells L.toArray 4)).drew) w.heap.size _).heap[b]? = _
    rw [setB_get, if_neg (fun h => Nat.ne_of_lt hbw h.1)]
    exact (hN _ hA).2.1
  have hfin : GrownTo w [y0, x0, x1] 4 1 (.returned (.slice (some ⟨w.heap.size, 0, none⟩) 3 G)) (setB (setB ((w.alloc (.cells L.toArray 4)).drew) w.heap.size (.cells ([y0] ++ L1).toArray 4)).drew w.heap.size (.cells ([y0, x0, x1] ++ L2).toArray 4)) := by
    refine ⟨G - 3, L2, ?_, hl2, rfl, rfl, rfl, ?_⟩
    · rw [Nat.add_sub_cancel' hG3]
    · have e1 : ∀ (W : World) (o : Obj), (setB W.drew w.heap.size o).heap = (setB W w.heap.size o).heap := fun _ _ => rfl
      rw [e1, setB_setB]
      show (w.heap.push _).setIfInBounds w.heap.size _ = _
      rw [push_set]
  have hw1 : IntKind.i64.wrap 1 = 1 := by decide
  have hg1 : ¬ (G = 1) := by omega
  have hg0 : ¬ (G = 0) := by omega
  obtain ⟨PP, hPP⟩ : ∃ PP : Ending → World → Prop, PP = GrownTo w [y0, x0, x1] 4 1 := ⟨_, rfl⟩
  show Calls Tryz.prog 47 _ w fun q w' => GrownTo w [y0, x0, x1] 4 1 q w'
  rw [← hPP] at hfin ⊢
  clear hG hold hPP hRl hL1 hL2 hdr hl1 hl2
  go_enter Tryz.func47, Tryz.ntmps47
  go_wp2_with (first
    | (at_builtin; refine Lib.wpList_append_run _ rfl _ _ _ _ rfl _ _ rfl rfl _ _ (hrz _) ?_)
    | (at_builtin; refine Go.Proofs.wpList_copy_runI _ rfl _ _ 81 81 rfl _ _ rfl rfl (hcpA _ hA _ _) ?_))
  go_region_law (refine Go.Proofs.step_copy_runI rfl _ _ 81 81 rfl (.slice (some ⟨w.heap.size, 1, none⟩) 2 (G - 1)) (.slice (some ⟨b, 0, none⟩) 2 2) (by simp [Act.eval, Act.put]) (by simp [Act.eval, Act.put]) (hcpB _ hB1 hB2 3 (G - 1) 2) ?_)
  go_wp2
  exact hfin
end Go.Proofs.YtpfagdkpolhopaaGreatDoor.sheetNew
