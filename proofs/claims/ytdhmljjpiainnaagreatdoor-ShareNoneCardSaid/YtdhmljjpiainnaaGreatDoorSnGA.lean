/-
  'slices.Insert' OF ONE ELEMENT AHEAD OF TWO: the laws of the model that its walk leans on; by the author of this claim. | 'slices.Insert' OF ONE ELEMENT AHEAD OF ONE (Let), where there is room; by the author of this claim, in the kit's walk; the turning round by the author's own evaluator. | THE WORD ON 'slices.Insert' OF ONE ELEMENT AHEAD OF ONE, as the author's evaluator takes it: the row that comes goes by a new name, whether it lies where it lay or not. | THE WORD ON 'slices.Insert', as an entry of a table of calls; by the author of this claim.
-/
import Derived.Test.YtdhmljjpiainnaaGreatDoorEvGE
import Derived.Test.YtdhmljjpiainnaaGreatDoorEvGH
import Derived.Test.YtdhmljjpiainnaaGreatDoorProg
import Derived.WalkKit
import Derived.Laws.Externs
import Derived.KernelRfl
import Derived.Shelf.Spec.SlicesInsert
import Derived.Lib.AppendZerosOnto
import Derived.Lib.Walk
import Derived.Deep.RegionLaw
import Derived.Test.YtdhmljjpiainnaaGreatDoorEvGM
namespace Go.Proofs.YtdhmljjpiainnaaGreatDoor.shareNone
open Go Go.RowKit Go.Proofs.YtdhmljjpiainnaaGreatDoor.Ev
variable {P : Program}
theorem load_any (w : World) (b off n : Nat) (L vs : List Value) (e : TypeId) (fr : Nat × Nat) (hb : w.heap[b]? = some (.cells L.toArray e fr)) (hv : (L.drop off).take n = vs) (hn : vs.length = n) : (loadCells ⟨b, off, none⟩ n).run P w = .ok vs.toArray w := by
  have := run_loadCells_list (P := P) w ⟨b, off, none⟩ vs (fun j v hj => by
    rw [add_none]
    subst hv
    rw [List.getElem?_take] at hj
    split at hj
    · rw [List.getElem?_drop] at hj
      simp [World.cell?, hb, hj]
    · cases hj)
  rw [hn] at this
  exact this
theorem copy_any (w : World) (dT sT ty e : TypeId) (size b off dLen dCap b' off' sLen sCap k : Nat) (L vs : List Value) (e' : TypeId) (fr : Nat × Nat) (hu : tyU P dT = some (.slice e)) (hs : tySize P e = some size)
    (hk : Nat.min sLen dLen = k) (hsrc : (loadCells ⟨b', off', none⟩ (k * size)).run P w = .ok vs.toArray w)
    (hd : w.heap[b]? = some (.cells L.toArray e' fr)) (hle : off + vs.length ≤ L.length) (hfr : frOk fr L.length) (hone : ∀ v ∈ vs, v.oneCell' = true) :
    (Builtin.copy_ #[dT, sT] ty #[.slice (some ⟨b, off, none⟩) dLen dCap, .slice (some ⟨b', off', none⟩) sLen sCap]).run P w = .ok (goInt k) (setB w b (.cells (L.take off ++ vs ++ L.drop (off + vs.length)).toArray e' fr)) := by
  have hst := run_storeCells_any (P := P) (off := off) vs 0 L w hd (by omega) hfr hone
  simp only [Nat.add_zero] at hst
  have h0 : (#[dT, sT] : Array TypeId)[0]? = some dT := rfl
  have h1 : (#[Value.slice (some ⟨b, off, none⟩) dLen dCap, .slice (some ⟨b', off', none⟩) sLen sCap] : Array Value)[0]? = some (.slice (some ⟨b, off, none⟩) dLen dCap) := rfl
  have h2 : (#[Value.slice (some ⟨b, off, none⟩) dLen dCap, .slice (some ⟨b', off', none⟩) sLen sCap] : Array Value)[1]? = some (.slice (some ⟨b', off', none⟩) sLen sCap) := rfl
  simp only [Builtin.copy_, h0, h1, h2, Sem.run_bind, r_underlying hu w, Result.andThen, Builtin.lenOf, Sem.run_pure, r_sizeOf hs w, hk, Builtin.firstCells, hsrc, hst]
theorem overlaps_any (w : World) (tS tR e : TypeId) (size : Nat) (hu : tyU P tS = some (.slice e)) (hs : tySize P e = some size) (a b la ca lb cb off : Nat) (hne : a ≠ b) (A B : List Value) (tA tB : TypeId) (fa fb : Nat × Nat)
    (ha : w.heap[a]? = some (.cells A.toArray tA fa)) (hb : w.heap[b]? = some (.cells B.toArray tB fb)) (hfa : frOk fa A.length) (hA : 0 < A.length) (hB : 0 < B.length) :
    ∃ (t : Bool) (w' : World), (Extern.SlicesOverlaps.overlaps #[tS, tS] #[tR] #[.slice (some ⟨a, 0, none⟩) la ca, .slice (some ⟨b, off, none⟩) lb cb]).run P w = .ok (.bool t) w' ∧ w'.heap = w.heap ∧ w'.os = w.os ∧ w'.tape = w.tape ∧ w'.output = w.output := by
  have hnb : (a != b) = true := by simpa using hne
  have hnb' : (a == b) = false := by simpa using hne
  have hfz : w.frozen? ⟨a, 0, none⟩ = false := by
    have := hfa.at 0 hA
    simp only [World.frozen?, ha]
    simpa using this
  have hsa : w.shape? a = some (tA, A.length) := by simp [World.shape?, ha]
  have hsb : w.shape? b = some (tB, B.length) := by simp [World.shape?, hb]
  obtain ⟨kA, hkA⟩ : ∃ k, A.length = k + 1 := ⟨A.length - 1, by omega⟩
  obtain ⟨kB, hkB⟩ : ∃ k, B.length = k + 1 := ⟨B.length - 1, by omega⟩
  rw [hkA] at hsa
  rw [hkB] at hsb
  by_cases h0 : la = 0 ∨ lb = 0 ∨ size = 0
  · refine ⟨false, w, ?_, rfl, rfl, rfl, rfl⟩
    show Sem.run P (underlying tS >>= _) w = _
    simp [r_underlying hu w, r_sizeOf hs w, h0]
  · by_cases h1 : w.frozen? ⟨a, kA + 1, none⟩ = true
    · by_cases h2 : w.frozen? ⟨b, off, none⟩ = true
      · refine ⟨(Question.cut (.extern "sameAddr.stringBytes" 2) (w.tape w.drawn (.extern "sameAddr.stringBytes" 2))) == 1, w.drew, ?_, rfl, rfl, rfl, rfl⟩
        show Sem.run P (underlying tS >>= _) w = _
        simp [r_underlying hu w, r_sizeOf hs w, h0, hnb, hnb', frozen, noView, viewAt, mayBeOne, stringish, shape, Sem.run, hsa, hsb, hfz, h1, h2, Question.forced]
      · by_cases h3 : w.frozen? ⟨b, kB + 1, none⟩ = true
        · refine ⟨(Question.cut (.extern "sameAddr.stringBytes" 2) (w.tape w.drawn (.extern "sameAddr.stringBytes" 2))) == 1, w.drew, ?_, rfl, rfl, rfl, rfl⟩
          show Sem.run P (underlying tS >>= _) w = _
          simp [r_underlying hu w, r_sizeOf hs w, h0, hnb, hnb', frozen, noView, viewAt, mayBeOne, stringish, shape, Sem.run, hsa, hsb, hfz, h1, h2, h3, Question.forced]
        · refine ⟨false, w, ?_, rfl, rfl, rfl, rfl⟩
          show Sem.run P (underlying tS >>= _) w = _
          simp [r_underlying hu w, r_sizeOf hs w, h0, hnb, hnb', frozen, noView, viewAt, mayBeOne, stringish, shape, Sem.run, hsa, hsb, hfz, h1, h2, h3]
    · refine ⟨false, w, ?_, rfl, rfl, rfl, rfl⟩
      show Sem.run P (underlying tS >>= _) w = _
      simp [r_underlying hu w, r_sizeOf hs w, h0, hnb, hnb', frozen, noView, viewAt, mayBeOne, stringish, shape, Sem.run, hsa, hsb, hfz, h1]
open Go Go.RowKit Go.Proofs.YtdhmljjpiainnaaGreatDoor.Ev
theorem noCount : NoCount Tryz.prog := noCount_of (by kernel_rfl)
theorem mixed : Tryz.prog.follows .mixedOrders = true := by kernel_rfl
theorem oneOf_one {v : Value} (h : v.oneCell' = true) : oneOf v = v := by cases v <;> first | rfl | cases h
theorem size_setB (w : World) (b : Nat) (ob : Obj) : (setB w b ob).heap.size = w.heap.size := by simp [setB]
def Turned (w : World) (b n m : Nat) (l : List Value) (e : TypeId) (w' : World) : Prop := ∃ fr1 ex1, ex1.length = m ∧ frOk fr1 (n + m) ∧ Below w.heap.size (setB w b (.cells (l ++ ex1).toArray e fr1)) w'
def GrownTo (w : World) (l : List Value) (e : TypeId) (size : Nat) (q : Ending) (w' : World) : Prop := ∃ c ex, q = .returned (.slice (some ⟨w.heap.size, 0, none⟩) 2 (2 + c)) ∧ ex.length = c * size ∧ w'.os = w.os ∧ w'.tape = w.tape ∧ w'.output = w.output ∧ w'.heap = w.heap.push (.cells (l ++ ex).toArray e)
theorem push_set {α : Type} (a : Array α) (x y : α) : (a.push x).setIfInBounds a.size y = a.push y := by
  apply Array.ext_getElem?
  intro k
  rw [Array.getElem?_setIfInBounds, Array.getElem?_push, Array.getElem?_push]
  by_cases h : a.size = k
  · subst h; simp
  · rw [if_neg h, if_neg (fun e => h e.symm), if_neg (fun e => h e.symm)]
theorem below_swap {w W : World} {b : Nat} {o o' : Obj} (h2 : W.os = w.os) (h3 : W.tape = w.tape) (h4 : W.output = w.output) (h1 : W.heap = w.heap) {n : Nat} : Below n (setB w b o) (setB (setB W.drew b o') b o) := by
  rw [setB_setB]
  have e : (setB W.drew b o).heap = (setB w b o).heap := by show W.heap.setIfInBounds b o = w.heap.setIfInBounds b o; rw [h1]
  exact ⟨h2, h3, h4, by rw [e]; exact Nat.le_refl _, fun k _ => by rw [e]⟩
theorem below_turned {w W w' : World} {b : Nat} {o : Obj} (h2 : W.os = w.os) (h3 : W.tape = w.tape) (h4 : W.output = w.output) (h1 : W.heap = w.heap) {n : Nat} (h : Below n (setB W b o) w') : Below n (setB w b o) w' := by
  have e : (setB W b o).heap = (setB w b o).heap := by simp only [setB, h1]
  obtain ⟨g1, g2, g3, g4, g5⟩ := h
  exact ⟨g1.trans h2, g2.trans h3, g3.trans h4, by rw [← e]; exact g4, fun k hk => (g5 k hk).trans (by rw [e])⟩
noncomputable def rotHpLet : Hp := ⟨T.leaf.set 0 (.row [.opq 10, .opq 11] 109 2 1 1), 20⟩
def rotOkLet (o : Out) : Bool := match o.hp.objs.get 0 with
  | some (.row l e k cv s) => SV.sameL l [.opq 11, .opq 10] && Nat.beq e 109 && Nat.beq k 2 && Nat.beq cv 1 && Nat.beq s 1
  | _ => false
def rotAllLet (r : R) : Bool := match r with
  | some outs => outs.all rotOkLet
  | none => false
theorem rotSomeLet {r : R} (h : rotAllLet r = true) : ∃ outs, r = some outs ∧ outs.all rotOkLet = true := by
  cases r with
  | none => cases h
  | some outs => exact ⟨outs, rfl, h⟩
set_option maxRecDepth 100000 in
theorem rotRunsLet : rotAllLet (run Tryz.prog .leaf 300 (.call 221 [.row 0 0 2 2 1, .lit (.int .i64 1)] rotHpLet)) = true := by kernel_rfl
theorem rotLet (b c : Nat) (x0 y0 : Value) (ex : List Value) (w : World) (fr : Nat × Nat) (hc : 2 ≤ c) (hl : 2 + ex.length = c * 1) (hb : w.heap[b]? = some (.cells (x0 :: y0 :: ex).toArray 109 fr)) (hfb : frOk fr (2 + ex.length)) (hone : ∀ v ∈ [x0, y0], v.oneCell' = true) :
    Calls Tryz.prog 221 #[.slice (some ⟨b, 0, none⟩) 2 c, .int .i64 1] w fun q w' => (∃ v, q = .returned v) ∧ ∃ fr1 ex1, ex1.length = ex.length ∧ frOk fr1 (2 + ex.length) ∧ Below w.heap.size (setB w b (.cells (y0 :: x0 :: ex1).toArray 109 fr1)) w' := by
  obtain ⟨outs, ho, hall⟩ := rotSomeLet rotRunsLet
  have hlt : b < w.heap.size := (Array.getElem?_eq_some_iff.1 hb).1
  let θ : Ren := ⟨fun _ => b, fun _ => c - 2, fun _ => 0, fun i => if i = 10 then x0 else if i = 11 then y0 else .bool false⟩
  have hget : ∀ b' o, rotHpLet.objs.get b' = some o → b' = 0 ∧ o = .row [.opq 10, .opq 11] 109 2 1 1 := fun b' o h => by
    unfold rotHpLet at h
    rw [show (Hp.mk (T.leaf.set 0 (.row [.opq 10, .opq 11] 109 2 1 1)) 20).objs = T.leaf.set 0 (.row [.opq 10, .opq 11] 109 2 1 1) from rfl, T.get_set] at h
    by_cases e : b' = 0
    · rw [if_pos e] at h; exact ⟨e, (Option.some.inj h).symm⟩
    · rw [if_neg e] at h; cases h
  have hrep : Rep (.plain .leaf) (fun k => k < w.heap.size ∧ k ≠ b) w θ (· < 20) rotHpLet w := by
    refine ⟨rfl, rfl, rfl, Nat.le_refl _, fun _ _ => rfl, fun _ h => h.1, fun g cs h => (by cases h), fun b' o h => ?_, fun b1 b2 o1 o2 h1 h2 _ => (hget b1 o1 h1).1.trans (hget b2 o2 h2).1.symm, fun i hi => Nat.not_lt.2 hi, trivial⟩
    obtain ⟨rfl, rfl⟩ := hget b' o h
    refine ⟨by decide, fun h => h.2 rfl, ⟨by simp [SV.okL, SV.ok], by decide⟩, _, hb, fr, ex, ?_, ?_, ?_⟩
    · have := fun v hv => oneOf_one (hone v hv)
      simp only [List.mem_cons, List.not_mem_nil, or_false, forall_eq_or_imp, forall_eq] at this
      simp [concL, conc, θ, this]
    · simpa using hfb
    · show 2 + ex.length = (2 + (c - 2)) * 1
      rw [hl, Nat.add_sub_cancel' hc]
  have hcalls := ((run_sound (Γ := .plain .leaf) noCount mixed 300).1.call 221 _ rotHpLet outs ho).2 _ w θ _ w hrep ⟨⟨by decide, by decide⟩, trivial, trivial⟩
  have hargs : (concL θ [.row 0 0 2 2 1, .lit (.int .i64 1)]).toArray = #[.slice (some ⟨b, 0, none⟩) 2 c, .int .i64 1] := by
    simp only [concL, conc, θ, Nat.add_sub_cancel' hc]
  rw [hargs] at hcalls
  refine (callsIn_wide.1 hcalls).mono ?_
  rintro q w' ⟨o, hm, θ', K', hg, hq, _, hr'⟩
  have hok := List.all_eq_true.1 hall o hm
  unfold rotOkLet at hok
  split at hok
  · rename_i l e k cv s hobj
    simp only [Bool.and_eq_true] at hok
    obtain ⟨⟨⟨⟨hs1, hs2⟩, hs3⟩, hs4⟩, hs5⟩ := hok
    obtain rfl := sameL_eq _ _ hs1
    obtain rfl := Nat.eq_of_beq_eq_true hs2
    obtain rfl := Nat.eq_of_beq_eq_true hs3
    obtain rfl := Nat.eq_of_beq_eq_true hs4
    obtain rfl := Nat.eq_of_beq_eq_true hs5
    obtain ⟨k1, k2, k3, ob, k4, fr1, ex1, rfl, k6, k7⟩ := hr'.obj _ _ hobj
    have hblk : θ'.blk 0 = b := (hg.ext.blk 0 (by decide)).trans rfl
    have hcap : θ'.cap 1 = c - 2 := (hg.ext.cap 1 (by decide)).trans rfl
    have hopq : ∀ i, i < 20 → θ'.opq i = θ.opq i := fun i hi => hg.ext.opq i hi
    have hll : ([.opq 11, .opq 10] : List SV).length = 2 := rfl
    rw [hcap, Nat.add_sub_cancel' hc, ← hl, hll] at k7
    have hel : ex1.length = ex.length := by omega
    rw [hblk] at k4
    have hcs : concL θ' [.opq 11, .opq 10] ++ ex1 = y0 :: x0 :: ex1 := by
      have := fun v hv => oneOf_one (hone v hv)
      simp only [List.mem_cons, List.not_mem_nil, or_false, forall_eq_or_imp, forall_eq] at this
      simp only [concL, conc]
      simp only [hopq 10 (by decide), hopq 11 (by decide)]
      simp [θ, this]
    rw [hcs] at k4
    refine ⟨⟨_, hq⟩, fr1, ex1, hel, by rw [hll, hel] at k6; exact k6, hr'.os, hr'.tape, hr'.output, by rw [size_setB]; exact hr'.size, fun k hk => ?_⟩
    by_cases e : k = b
    · rw [e, k4, setB_same hb]
    · rw [setB_get, if_neg (fun h => e h.1)]
      exact hr'.kept k ⟨hk, e⟩
  · cases hok
set_option maxHeartbeats 4000000 in
set_option maxRecDepth 100000 in
theorem roomLet (b c vb : Nat) (x0 z0 y0 : Value) (ex : List Value) (w : World) (e' : TypeId) (fr fr' : Nat × Nat) (hne : vb ≠ b) (hc : 2 ≤ c) (hl : 2 + ex.length = c * 1)
    (hb : w.heap[b]? = some (.cells (x0 :: z0 :: ex).toArray 109 fr)) (hfb : frOk fr (2 + ex.length)) (hv : w.heap[vb]? = some (.cells ([y0] : List Value).toArray e' fr')) (hfv : frOk fr' 1)
    (hone : ∀ v ∈ [x0, y0], v.oneCell' = true) :
    Calls Tryz.prog 167 #[.slice (some ⟨b, 0, none⟩) 1 c, .int .i64 0, .slice (some ⟨vb, 0, none⟩) 1 1] w fun q w' =>
      q = .returned (.slice (some ⟨b, 0, none⟩) 2 c) ∧ Turned w b 2 ex.length [y0, x0] 109 w' := by
  have hu : tyU Tryz.prog 84 = some (.slice 109) := by kernel_rfl
  have hs : tySize Tryz.prog 109 = some 1 := by kernel_rfl
  have hox : ∀ v ∈ [x0], v.oneCell' = true := fun v hv => hone v (by simp only [List.mem_cons, List.not_mem_nil, or_false] at hv ⊢; first | exact .inl hv | (rcases hv with h | h <;> simp [h]) | (rcases hv with h | h | h | h <;> simp [h]) | simp [hv])
  have hoy : ∀ v ∈ [y0], v.oneCell' = true := fun v hv => hone v (by simp only [List.mem_cons, List.not_mem_nil, or_false] at hv ⊢; first | exact .inl hv | (rcases hv with h | h <;> simp [h]) | (rcases hv with h | h | h | h <;> simp [h]) | simp [hv])
  have hov0 : ∀ x : Nat × Nat, ∃ r : Bool × World, (callFunc 220 #[.slice (some ⟨vb, 0, none⟩) 1 1, .slice (some ⟨b, 1, none⟩) x.1 x.2]).run Tryz.prog w = .ok (.value (.bool r.1)) r.2 ∧ r.2.heap = w.heap ∧ r.2.os = w.os ∧ r.2.tape = w.tape ∧ r.2.output = w.output := fun ⟨lb, cb⟩ => by
    obtain ⟨t, w', h1, h2⟩ := overlaps_any (P := Tryz.prog) w 84 4 109 1 hu hs vb b 1 1 lb cb 1 hne _ _ e' 109 fr' fr hv hb hfv (by simp) (by simp)
    refine ⟨(t, w'), ?_, h2⟩
    rw [run_callFunc_extern Tryz.func220 (by kernel_rfl) (by kernel_rfl) (by kernel_rfl) (e := Extern.SlicesOverlaps.overlaps #[84, 84] #[4]) (by kernel_rfl), h1]
    rfl
  obtain ⟨R, hR⟩ := Classical.axiomOfChoice hov0
  clear hov0
  have hov1 : ∀ lb cb, (callFunc 220 #[.slice (some ⟨vb, 0, none⟩) 1 1, .slice (some ⟨b, 1, none⟩) lb cb]).run Tryz.prog w = .ok (.value (.bool (R (lb, cb)).1)) (R (lb, cb)).2 := fun lb cb => (hR (lb, cb)).1
  obtain ⟨_, r1, r2, r3, r4⟩ := hR (1, c - 1)
  obtain ⟨W, hW⟩ : ∃ W, W = (R (1, c - 1)).2 := ⟨_, rfl⟩
  rw [← hW] at r1 r2 r3 r4
  have hcpH : ∀ (W : World), W.heap = w.heap → ∀ ty dc, (Builtin.copy_ #[84, 84] ty #[.slice (some ⟨b, 1, none⟩) 1 dc, .slice (some ⟨vb, 0, none⟩) 1 1]).run Tryz.prog W = .ok (goInt 1) (setB W b (.cells (x0 :: y0 :: ex).toArray 109 fr)) := fun W hW ty dc =>
    copy_any W _ _ ty 109 1 b 1 1 dc vb 0 1 1 1 (x0 :: z0 :: ex) [y0] 109 fr hu hs rfl (load_any W vb 0 _ [y0] [y0] e' fr' (by rw [hW]; exact hv) rfl rfl) (by rw [hW]; exact hb) (by simp) (by rw [Nat.add_comm] at hfb; exact hfb) hoy
  have hcp1 : ∀ (W : World), W.heap = w.heap → ∀ ty dc sc, (Builtin.copy_ #[84, 84] ty #[.slice (some ⟨b, 1, none⟩) 1 dc, .slice (some ⟨b, 0, none⟩) 2 sc]).run Tryz.prog W = .ok (goInt 1) (setB W b (.cells (x0 :: x0 :: ex).toArray 109 fr)) := fun W hW ty dc sc =>
    copy_any W _ _ ty 109 1 b 1 1 dc b 0 2 sc 1 (x0 :: z0 :: ex) [x0] 109 fr hu hs rfl (load_any W b 0 _ (x0 :: z0 :: ex) [x0] 109 fr (by rw [hW]; exact hb) rfl rfl) (by rw [hW]; exact hb) (by simp) (by rw [Nat.add_comm] at hfb; exact hfb) hox
  have hcp2 : ∀ (W : World), W.heap[b]? = some (.cells (x0 :: x0 :: ex).toArray 109 fr) → W.heap[vb]? = some (.cells ([y0] : List Value).toArray e' fr') → ∀ ty dc, (Builtin.copy_ #[84, 84] ty #[.slice (some ⟨b, 0, none⟩) 2 dc, .slice (some ⟨vb, 0, none⟩) 1 1]).run Tryz.prog W = .ok (goInt 1) (setB W b (.cells (y0 :: x0 :: ex).toArray 109 fr)) := fun W h1 h2 ty dc =>
    copy_any W _ _ ty 109 1 b 0 2 dc vb 0 1 1 1 (x0 :: x0 :: ex) [y0] 109 fr hu hs rfl (load_any W vb 0 _ [y0] [y0] e' fr' h2 rfl rfl) h1 (by simp) (by rw [Nat.add_comm] at hfb; exact hfb) hoy
  have hd : W.drew.heap = w.heap := r1
  have hb1 : (setB W.drew b (.cells (x0 :: x0 :: ex).toArray 109 fr)).heap[b]? = some (.cells (x0 :: x0 :: ex).toArray 109 fr) := setB_same (by rw [hd]; exact hb)
  have hv1 : (setB W.drew b (.cells (x0 :: x0 :: ex).toArray 109 fr)).heap[vb]? = some (.cells ([y0] : List Value).toArray e' fr') := by rw [setB_get, if_neg (fun h => hne h.1), hd]; exact hv
  have hbH : (setB W b (.cells (x0 :: y0 :: ex).toArray 109 fr)).heap[b]? = some (.cells (x0 :: y0 :: ex).toArray 109 fr) := setB_same (by rw [r1]; exact hb)
  have hrot := rotLet b c x0 y0 ex (setB W b (.cells (x0 :: y0 :: ex).toArray 109 fr)) fr hc hl hbH hfb hone
  have hc1 : ¬ ((c : Int) < 2) := by omega
  have hc2 : ¬ (c = 1) := by omega
  have hc3 : ¬ (c = 0) := by omega
  have hszw : w.heap.size = W.heap.size := by rw [r1]
  have hw1 : IntKind.i64.wrap 1 = 1 := by decide
  subst hW
  go_enter Tryz.func167, Tryz.ntmps167
  go_wp2_with (first
    | simp only
    | (at_builtin; refine Go.Proofs.wpList_copy_runI _ rfl _ _ 84 84 rfl _ _ rfl rfl (hcpH _ r1 _ _) ?_)
    | (go_at_call 221; refine hrot.mono ?_; rintro q w' ⟨⟨v, rfl⟩, fr1, ex1, h1, h2, h3⟩))
  · go_region_law (refine Go.Proofs.step_copy_runI rfl _ _ 84 84 rfl (.slice (some ⟨b, 1, none⟩) 1 (c - 1)) (.slice (some ⟨b, 0, none⟩) 2 c) (by simp [Act.eval, Act.put]) (by simp [Act.eval, Act.put]) (hcp1 (R (1, c - 1)).2.drew r1 3 (c - 1) c) ?_)
    go_wp2_with (at_builtin; refine Go.Proofs.wpList_copy_runI _ rfl _ _ 84 84 rfl _ _ rfl rfl (hcp2 (setB (R (1, c - 1)).2.drew b (.cells (x0 :: x0 :: ex).toArray 109 fr)) hb1 hv1 _ _) ?_)
    go_ret
    exact ⟨rfl, fr, ex, rfl, hfb, below_swap r2 r3 r4 r1⟩
  · go_ret
    refine ⟨rfl, fr1, ex1, h1, by simpa only [hl] using h2, ?_⟩
    have h3 := h3
    simp only [setB_setB, size_setB] at h3
    rw [hszw]
    exact below_turned r2 r3 r4 r1 h3
set_option maxHeartbeats 4000000 in
set_option maxRecDepth 100000 in
theorem growLet (b vb : Nat) (x0 y0 : Value) (w : World) (e' : TypeId) (fr fr' : Nat × Nat)
    (hb : w.heap[b]? = some (.cells ([x0] : List Value).toArray 109 fr)) (hv : w.heap[vb]? = some (.cells ([y0] : List Value).toArray e' fr'))
    (hone : ∀ v ∈ [x0, y0], v.oneCell' = true) :
    Calls Tryz.prog 167 #[.slice (some ⟨b, 0, none⟩) 1 1, .int .i64 0, .slice (some ⟨vb, 0, none⟩) 1 1] w fun q w' =>
      GrownTo w [y0, x0] 109 1 q w' := by
  have hu : tyU Tryz.prog 84 = some (.slice 109) := by kernel_rfl
  have hs : tySize Tryz.prog 109 = some 1 := by kernel_rfl
  have hox : ∀ v ∈ [x0], v.oneCell' = true := fun v hv => hone v (by simp only [List.mem_cons, List.not_mem_nil, or_false] at hv ⊢; first | exact .inl hv | (rcases hv with h | h <;> simp [h]) | (rcases hv with h | h | h | h <;> simp [h]) | simp [hv])
  have hoy : ∀ v ∈ [y0], v.oneCell' = true := fun v hv => hone v (by simp only [List.mem_cons, List.not_mem_nil, or_false] at hv ⊢; first | exact .inl hv | (rcases hv with h | h <;> simp [h]) | (rcases hv with h | h | h | h <;> simp [h]) | simp [hv])
  have hbw : b < w.heap.size := (Array.getElem?_eq_some_iff.1 hb).1
  have hvw : vb < w.heap.size := (Array.getElem?_eq_some_iff.1 hv).1
  obtain ⟨i0, z, hi0, hz0, hzs, hzb, hzl⟩ : ∃ (i : TypeInfo) (z : Value), Tryz.prog.info? 109 = some i ∧ i.zero = some z ∧ i.size = 1 ∧ i.bytes ≤ 1000 ∧ z.cells.size = 1 := ⟨_, _, rfl, rfl, rfl, by decide, rfl⟩
  have hold : (Builtin.firstCells i0.size 0 (.slice (some ⟨b, 0, none⟩) 0 1)).run Tryz.prog w.drew = .ok ([] : List Value).toArray w.drew := by
    simp only [Builtin.firstCells, Nat.zero_mul]
    exact load_any w.drew b 0 0 _ [] 109 fr hb rfl rfl
  obtain ⟨G, hG⟩ : ∃ G, G = grownCap w 2 1 109 := ⟨_, rfl⟩
  have hG3 : 2 ≤ G := by rw [hG]; exact grownCap_ge w _ _ _
  obtain ⟨ROW, hROW⟩ : ∃ ROW : Array Value, ROW = ([] : List Value).toArray ++ Builtin.zeroCells z.cells 2 ++ Builtin.zeroCells z.cells (G - 2) := ⟨_, rfl⟩
  have hrz : ∀ ty, (Builtin.append_ #[84, 3] ty #[.slice (some ⟨b, 0, none⟩) 0 1, .int .i64 2]).run Tryz.prog w = .ok (.slice (some ⟨w.heap.size, 0, none⟩) 2 G) (w.drew.alloc (.cells ROW 109)) := fun ty => by
    have h := Lib.run_append_grow_zeros (P := Tryz.prog) w 84 3 ty 109 i0 z .i64 .i64 (by kernel_rfl) (by kernel_rfl) hi0 hz0 (some ⟨b, 0, none⟩) 0 1 [] hold 2 (by omega) (by omega) (by omega) (by omega) (by omega) (by
      have : Builtin.nextslicecap (0 + 2) 1 = 2 := by decide
      rw [this]; omega)
    rw [hROW, hG]
    exact h
  have hRl : ROW.toList.length = 2 * 1 + (G - 2) * 1 := by
    rw [hROW]
    simp [Builtin.zeroCells, hzl]
    try omega
  obtain ⟨L, hL⟩ : ∃ L : List Value, L = ROW.toList := ⟨_, rfl⟩
  have hRL : ROW = L.toArray := by rw [hL]
  rw [← hL] at hRl
  clear hROW hL
  subst hRL
  have hN : ∀ (W : World), W.heap = w.heap.push (.cells L.toArray 109) → W.heap[w.heap.size]? = some (.cells L.toArray 109 (0, 0)) ∧ W.heap[b]? = some (.cells ([x0] : List Value).toArray 109 fr) ∧ W.heap[vb]? = some (.cells ([y0] : List Value).toArray e' fr') := fun W hW => by
    rw [hW]
    refine ⟨by simp, ?_, ?_⟩
    · rw [Array.getElem?_push, if_neg (by omega)]; exact hb
    · rw [Array.getElem?_push, if_neg (by omega)]; exact hv
  obtain ⟨L1, hL1⟩ : ∃ L1, L1 = L.drop 1 := ⟨_, rfl⟩
  obtain ⟨L2, hL2⟩ : ∃ L2, L2 = L.drop 2 := ⟨_, rfl⟩
  have hdr : ([y0] ++ L1).drop 2 = L2 := by rw [hL1, hL2]; simp
  have hl1 : L1.length = 1 * 1 + (G - 2) * 1 := by rw [hL1, List.length_drop, hRl]; omega
  have hl2 : L2.length = (G - 2) * 1 := by rw [hL2, List.length_drop, hRl]; omega
  have hcpA : ∀ (W : World), W.heap = w.heap.push (.cells L.toArray 109) → ∀ ty dc, (Builtin.copy_ #[84, 84] ty #[.slice (some ⟨w.heap.size, 0, none⟩) 2 dc, .slice (some ⟨vb, 0, none⟩) 1 1]).run Tryz.prog W = .ok (goInt 1) (setB W w.heap.size (.cells ([y0] ++ L1).toArray 109)) := fun W hW ty dc => by
    have h := copy_any (P := Tryz.prog) W 84 84 ty 109 1 w.heap.size 0 2 dc vb 0 1 1 1 L [y0] 109 (0, 0) hu hs rfl (load_any W vb 0 _ [y0] [y0] e' fr' (hN W hW).2.2 rfl rfl) (hN W hW).1 (by simp; omega) (.inl rfl) hoy
    have h2 : L.drop (0 + ([y0] : List Value).length) = L1 := by rw [hL1]; rfl
    rw [h2] at h
    exact h
  have hcpB : ∀ (W : World), W.heap[w.heap.size]? = some (.cells ([y0] ++ L1).toArray 109 (0, 0)) → W.heap[b]? = some (.cells ([x0] : List Value).toArray 109 fr) → ∀ ty dc sc, (Builtin.copy_ #[84, 84] ty #[.slice (some ⟨w.heap.size, 1, none⟩) 1 dc, .slice (some ⟨b, 0, none⟩) 1 sc]).run Tryz.prog W = .ok (goInt 1) (setB W w.heap.size (.cells ([y0, x0] ++ L2).toArray 109)) := fun W h1 h2 ty dc sc => by
    have h := copy_any (P := Tryz.prog) W 84 84 ty 109 1 w.heap.size 1 1 dc b 0 1 sc 1 ([y0] ++ L1) [x0] 109 (0, 0) hu hs rfl (load_any W b 0 _ [x0] [x0] 109 fr h2 rfl rfl) h1 (by simp; omega) (.inl rfl) hox
    have h2 : ([y0] ++ L1).drop (1 + ([x0] : List Value).length) = L2 := hdr
    rw [h2] at h
    exact h
  have hA : ((w.alloc (.cells L.toArray 109)).drew).heap = w.heap.push (.cells L.toArray 109) := rfl
  have hB1 : (setB ((w.alloc (.cells L.toArray 109)).drew) w.heap.size (.cells ([y0] ++ L1).toArray 109)).drew.heap[w.heap.size]? = some (.cells ([y0] ++ L1).toArray 109 (0, 0)) := setB_same (hN _ hA).1
  have hB2 : (setB ((w.alloc (.cells L.toArray 109)).drew) w.heap.size (.cells ([y0] ++ L1).toArray 109)).drew.heap[b]? = some (.cells ([x0] : List Value).toArray 109 fr) := by
    show (setB ((w.alloc (.cells L.toArray 109)).drew) w.heap.size _).heap[b]? = _
    rw [setB_get, if_neg (fun h => Nat.ne_of_lt hbw h.1)]
    exact (hN _ hA).2.1
  have hfin : GrownTo w [y0, x0] 109 1 (.returned (.slice (some ⟨w.heap.size, 0, none⟩) 2 G)) (setB (setB ((w.alloc (.cells L.toArray 109)).drew) w.heap.size (.cells ([y0] ++ L1).toArray 109)).drew w.heap.size (.cells ([y0, x0] ++ L2).toArray 109)) := by
    refine ⟨G - 2, L2, ?_, hl2, rfl, rfl, rfl, ?_⟩
    · rw [Nat.add_sub_cancel' hG3]
    · have e1 : ∀ (W : World) (o : Obj), (setB W.drew w.heap.size o).heap = (setB W w.heap.size o).heap := fun _ _ => rfl
      rw [e1, setB_setB]
      show (w.heap.push _).setIfInBounds w.heap.size _ = _
      rw [push_set]
  have hw1 : IntKind.i64.wrap 1 = 1 := by decide
  have hg1 : ¬ (G = 1) := by omega
  have hg0 : ¬ (G = 0) := by omega
  obtain ⟨PP, hPP⟩ : ∃ PP : Ending → World → Prop, PP = GrownTo w [y0, x0] 109 1 := ⟨_, rfl⟩
  show Calls Tryz.prog 167 _ w fun q w' => GrownTo w [y0, x0] 109 1 q w'
  rw [← hPP] at hfin ⊢
  clear hG hold hPP hRl hL1 hL2 hdr hl1 hl2
  go_enter Tryz.func167, Tryz.ntmps167
  go_wp2_with (first
    | (at_builtin; refine Lib.wpList_append_run _ rfl _ _ _ _ rfl _ _ rfl rfl _ _ (hrz _) ?_)
    | (at_builtin; refine Go.Proofs.wpList_copy_runI _ rfl _ _ 84 84 rfl _ _ rfl rfl (hcpA _ hA _ _) ?_))
  go_region_law (refine Go.Proofs.step_copy_runI rfl _ _ 84 84 rfl (.slice (some ⟨w.heap.size, 1, none⟩) 1 (G - 1)) (.slice (some ⟨b, 0, none⟩) 1 1) (by simp [Act.eval, Act.put]) (by simp [Act.eval, Act.put]) (hcpB _ hB1 hB2 3 (G - 1) 1) ?_)
  go_wp2
  exact hfin
open Go Go.RowKit Go.Proofs.YtdhmljjpiainnaaGreatDoor.Ev
def insW (tE sz : Nat) (args : List SV) (hp : Hp) : R :=
  match args with
  | [.row b 0 1 1 cv, .lit (.int .i64 (.ofNat 0)), .slice vb 0 1 1] => match hp.objs.get b, hp.objs.get vb with
    | some (.row l e 1 cv' s), some (.cells y _) =>
      bif Nat.beq cv cv' && Nat.beq e tE && Nat.beq s sz && Nat.beq l.length (1 * sz) && Nat.beq y.length sz && l.all SV.one && y.all SV.one then
        some [⟨.ret, ⟨.leaf, 0, []⟩, (newRowE ⟨hp.objs.put b none, hp.next⟩ (y ++ l) tE 2 sz).2, (newRowE ⟨hp.objs.put b none, hp.next⟩ (y ++ l) tE 2 sz).1⟩]
      else none
    | _, _ => none
  | _ => none
section
variable {P : Program} {Γ : Env} {X : Nat → Prop} {w0 : World} {θ : Ren} {K : Nat → Prop} {hp : Hp} {w : World}
theorem ins_post {f tE sz b cv vb : Nat} {l y : List SV} {e' : TypeId} (hr : Rep Γ X w0 θ K hp w) (hb : hp.objs.get b = some (.row l tE 1 cv sz)) (hv : hp.objs.get vb = some (.cells y e')) (hl : l.length = 1 * sz) (hy : y.length = sz)
    (hroom : ∀ (c : Nat) (zs ex : List Value) (fr fr' : Nat × Nat), θ.blk vb ≠ θ.blk b → 2 ≤ c → zs.length = sz → 2 * sz + ex.length = c * sz → w.heap[θ.blk b]? = some (.cells (concL θ l ++ (zs ++ ex)).toArray tE fr) → frOk fr (2 * sz + ex.length) → w.heap[θ.blk vb]? = some (.cells (concL θ y).toArray e' fr') → frOk fr' sz →
      Calls P f #[.slice (some ⟨θ.blk b, 0, none⟩) 1 c, .int .i64 0, .slice (some ⟨θ.blk vb, 0, none⟩) 1 1] w fun q w' => q = .returned (.slice (some ⟨θ.blk b, 0, none⟩) 2 c) ∧ Turned w (θ.blk b) (2 * sz) ex.length (concL θ y ++ concL θ l) tE w')
    (hgrow : ∀ (fr fr' : Nat × Nat), w.heap[θ.blk b]? = some (.cells (concL θ l).toArray tE fr) → w.heap[θ.blk vb]? = some (.cells (concL θ y).toArray e' fr') →
      Calls P f #[.slice (some ⟨θ.blk b, 0, none⟩) 1 1, .int .i64 0, .slice (some ⟨θ.blk vb, 0, none⟩) 1 1] w fun q w' => GrownTo w (concL θ y ++ concL θ l) tE sz q w') :
    Calls P f #[.slice (some ⟨θ.blk b, 0, none⟩) 1 (1 + θ.cap cv), .int .i64 0, .slice (some ⟨θ.blk vb, 0, none⟩) 1 1] w
      (CPost Γ X w0 θ K hp.next [⟨.ret, ⟨.leaf, 0, []⟩, (newRowE ⟨hp.objs.put b none, hp.next⟩ (y ++ l) tE 2 sz).2, (newRowE ⟨hp.objs.put b none, hp.next⟩ (y ++ l) tE 2 sz).1⟩]) := by
  obtain ⟨_, _, hbok, ob, hw, fr, ex, rfl, hfr, hsz⟩ := hr.obj b _ hb
  obtain ⟨_, _, hvok, ob', hw', fr', rfl, hfr'⟩ := hr.obj vb _ hv
  have hne : θ.blk vb ≠ θ.blk b := fun e => by
    have := hr.inj _ _ _ _ hv hb e
    rw [this, hb] at hv
    cases hv
  have hnk := hr.next hp.next (Nat.le_refl _)
  have hyl : SV.okL K (y ++ l) := okL_append hvok hbok.1
  have hlen : (y ++ l).length = 2 * sz := by rw [List.length_append, hl, hy]; omega
  cases hc : θ.cap cv with
  | zero =>
    rw [hc, hl] at hsz
    have hex : ex = [] := List.eq_nil_of_length_eq_zero (by omega)
    subst hex
    rw [List.append_nil] at hw
    refine (hgrow fr fr' hw hw').mono ?_
    rintro q w' ⟨c, ex, rfl, hel, g1, g2, g3, g4⟩
    have hr1 : Rep Γ X w0 θ K ⟨hp.objs.put b none, hp.next⟩ w := hr.fewer fun b' o h => by
      rw [T.get_put] at h
      by_cases e : b' = b
      · rw [if_pos e] at h; cases h
      · rw [if_neg e] at h; exact h
    rw [← concL_append] at g4
    obtain ⟨hrep, hcc, hok⟩ := newRow_rep (h := ⟨hp.objs.put b none, hp.next⟩) (l := y ++ l) (e := tE) (len := 2) (size := sz) (ex := ex) (c := c) (fr := (0, 0)) hr1 hyl hlen hel g1 g2 g3 g4 (frOk_zero _)
    exact ⟨_, List.mem_singleton_self _, _, _, ⟨Ren.bind_ext hnk, also_mono, also_fresh, Nat.le_succ _⟩, by rw [hcc], hok, hrep⟩
  | succ c =>
    rw [hc, hl] at hsz
    have hm : (1 + (c + 1)) * sz = 2 * sz + c * sz := by rw [show 1 + (c + 1) = 2 + c by omega, Nat.add_mul]
    have hex : ex.length = sz + c * sz := by omega
    have hz1 : (ex.take sz).length = sz := by rw [List.length_take]; omega
    have hz2 : (ex.drop sz).length = c * sz := by rw [List.length_drop]; omega
    refine (hroom (1 + (c + 1)) (ex.take sz) (ex.drop sz) fr fr' hne (by omega) hz1 (by rw [hz2, hm]) (by rw [List.take_append_drop]; exact hw) (by rw [hz2]; rw [hl, hex] at hfr; exact (show 2 * sz + c * sz = 1 * sz + (sz + c * sz) by omega) ▸ hfr) hw' (by rw [hy] at hfr'; exact hfr')).mono ?_
    rintro q w' ⟨rfl, fr1, ex1, h1, h2, h3⟩
    have hrm := hr.move (β := hp.next) (c := c) (o' := .row (y ++ l) tE 2 hp.next sz) (ob' := .cells (concL θ y ++ concL θ l ++ ex1).toArray tE fr1) hb rfl ⟨okL_also hyl, .inr rfl⟩ ⟨fr1, ex1, by rw [concL_ext (Ren.bind_ext hnk) _ hyl, concL_append], by rw [hlen, h1]; exact h2, by rw [Ren.bind_cap, hlen, h1, hz2, Nat.add_mul]⟩
    refine ⟨_, List.mem_singleton_self _, θ.bind hp.next (θ.blk b) c, also K hp.next, ⟨Ren.bind_ext hnk, also_mono, also_fresh, Nat.le_succ _⟩, ?_, ⟨.inr rfl, .inr rfl⟩, hrm.behind (by rw [size_setB]; exact h3)⟩
    simp only [newRowE, conc, Ren.bind_blk, Ren.bind_cap]
    rw [show 1 + (c + 1) = 2 + c by omega]
end
theorem insW_spec {tE sz : Nat} {args : List SV} {hp : Hp} {outs : List Out} (h : insW tE sz args hp = some outs) : ∃ b cv vb l y e', args = [.row b 0 1 1 cv, .lit (.int .i64 0), .slice vb 0 1 1] ∧ hp.objs.get b = some (.row l tE 1 cv sz) ∧ hp.objs.get vb = some (.cells y e') ∧ l.length = 1 * sz ∧ y.length = sz ∧ l.all SV.one = true ∧ y.all SV.one = true ∧
    outs = [⟨.ret, ⟨.leaf, 0, []⟩, (newRowE ⟨hp.objs.put b none, hp.next⟩ (y ++ l) tE 2 sz).2, (newRowE ⟨hp.objs.put b none, hp.next⟩ (y ++ l) tE 2 sz).1⟩] := by
  unfold insW at h
  split at h
  · rename_i b cv vb
    split at h
    · rename_i l e cv' s y e' h1 h2
      cases hc : (Nat.beq cv cv' && Nat.beq e tE && Nat.beq s sz && Nat.beq l.length (1 * sz) && Nat.beq y.length sz && l.all SV.one && y.all SV.one) with
      | false => rw [hc] at h; cases h
      | true =>
        rw [hc, cond_true] at h
        simp only [Bool.and_eq_true] at hc
        obtain ⟨⟨⟨⟨⟨⟨c1, c2⟩, c3⟩, c4⟩, c5⟩, c6⟩, c7⟩ := hc
        obtain rfl := Nat.eq_of_beq_eq_true c1
        obtain rfl := Nat.eq_of_beq_eq_true c2
        obtain rfl := Nat.eq_of_beq_eq_true c3
        exact ⟨b, cv, vb, l, y, e', rfl, h1, h2, Nat.eq_of_beq_eq_true c4, Nat.eq_of_beq_eq_true c5, c6, c7, (Option.some.inj h).symm⟩
    · cases h
  · cases h
theorem v1_of {l : List Value} (h : l.length = 1) : ∃ a, l = [a] := by
  match l, h with
  | [a], _ => exact ⟨a, rfl⟩
theorem insLetOk {Γ : Env} {args : List SV} {hp : Hp} {outs : List Out} (h : insW 109 1 args hp = some outs) {X : Nat → Prop} {w0 : World} {θ : Ren} {K : Nat → Prop} {w : World} (hr : Rep Γ X w0 θ K hp w) :
    CallsIn Fence.wide 0 Tryz.prog 167 (concL θ args).toArray w (CPost Γ X w0 θ K hp.next outs) := by
  obtain ⟨b, cv, vb, l, y, e', rfl, hb, hv, hl, hy, ol, oy, rfl⟩ := insW_spec h
  have hol := all_one (θ := θ) ol
  have hoy := all_one (θ := θ) oy
  have hll : (concL θ l).length = 1 := by rw [concL_length, hl]
  have hyl : (concL θ y).length = 1 := by rw [concL_length, hy]
  refine callsIn_wide.2 (ins_post hr hb hv hl hy ?_ ?_)
  · obtain ⟨x0, e0⟩ := v1_of hll
    obtain ⟨y0, f0⟩ := v1_of hyl
    intro c zs ex fr fr' hne hc hzl hsz h1 h2 h3 h4
    obtain ⟨z0, rfl⟩ := v1_of hzl
    rw [e0] at h1 hol ⊢
    rw [f0] at h3 hoy ⊢
    exact roomLet _ c _ x0 z0 y0 ex w e' fr fr' hne hc hsz h1 h2 h3 h4 fun v hv => (List.mem_append.1 (show v ∈ [x0] ++ [y0] from hv)).elim (hol v) (hoy v)
  · obtain ⟨x0, e0⟩ := v1_of hll
    obtain ⟨y0, f0⟩ := v1_of hyl
    intro fr fr' h1 h3
    rw [e0] at h1 hol ⊢
    rw [f0] at h3 hoy ⊢
    exact growLet _ _ x0 y0 w e' fr fr' h1 h3 fun v hv => (List.mem_append.1 (show v ∈ [x0] ++ [y0] from hv)).elim (hol v) (hoy v)
open Go Go.RowKit Go.Proofs.YtdhmljjpiainnaaGreatDoor.Ev
theorem entry_ins {e : Entry} (hf : e.f = 167) (h : covers (insW 109 1 e.args e.hp) e.outs = true) : EntryOk Tryz.prog (.plain .leaf) e := by
  unfold covers at h
  split at h
  · rename_i outs ho
    refine ⟨⟨_, _, by rw [hf]; exact Tryz.func167, rfl⟩, fun X w0 θ K w hr hok => CallsIn.mono (F := Fence.wide) (n := 0) (by rw [hf]; exact insLetOk ho hr) fun en w' he => ?_⟩
    obtain ⟨o, hm, θ', K', hG, rfl, hvok, hr'⟩ := he
    have := List.all_eq_true.1 h o hm
    obtain ⟨x, hx, hxx⟩ := List.any_eq_true.1 this
    simp only [Bool.and_eq_true] at hxx
    have e1 := eqv_eq _ _ hxx.1
    have e2 := eq_of_beq hxx.2.1
    have e3 := holds_get hxx.2.2
    refine ⟨x, hx, θ', K', by rw [← e2]; exact hG, by rw [e1], by rw [← e1]; exact hvok, ?_⟩
    rw [← e2]
    refine hr'.fewer fun b ob hb => ?_
    rcases tOf_get _ _ _ _ hb with h1 | ⟨_, h2⟩
    · exact e3 _ h1
    · cases h2
  · cases h
end Go.Proofs.YtdhmljjpiainnaaGreatDoor.shareNone
