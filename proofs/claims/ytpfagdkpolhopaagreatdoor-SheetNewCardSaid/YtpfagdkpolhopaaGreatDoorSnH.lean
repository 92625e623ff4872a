/-
  'slices.Insert' OF ONE ELEMENT AHEAD OF TWO: the laws of the model that its walk leans on; by the author of this claim. | 'slices.Insert' OF ONE ELEMENT AHEAD OF TWO (Id), where there is room; by the author of this claim, in the kit's walk; the turning round by the author's own evaluator.
-/
import Derived.Test.YtpfagdkpolhopaaGreatDoorEvGE
import Derived.Test.YtpfagdkpolhopaaGreatDoorEvGF
import Derived.Test.YtpfagdkpolhopaaGreatDoorProg
import Derived.WalkKit
import Derived.Laws.Externs
import Derived.KernelRfl
import Derived.Shelf.Spec.SlicesInsert
import Derived.Lib.AppendZerosOnto
import Derived.Lib.Walk
import Derived.Deep.RegionLaw
namespace Go.Proofs.YtpfagdkpolhopaaGreatDoor.sheetNew
open Go Go.RowKit Go.Proofs.YtpfagdkpolhopaaGreatDoor.Ev
variable {P : Program}

theorem load_any (w : World) (b off n : Nat) (L vs : List Value) (e : TypeId) (fr : Nat × Nat) (hb : w.heap[b]? = some (.cells L.toArray e fr)) (hv : (L.drop off).take n = vs) (hn : vs.length = n) : (loadCells ⟨b, off, none⟩ n).run P w = .ok vs.toArray w := by
  have := run_loadCells_list (P := P) w ⟨b, off, none⟩ vs (fun j v hj => by
    rw [add_none]
    subst hv
    rw [List.getElem?_take] at hj
    split at hj
    · rw [List.getElem?_drop] at hj
      simp [World.cell?, hb, hj]
    · cases hj)
  rw [hn] at this
  exact this

/-- A copy within what is known. -/
theorem copy_any (w : World) (dT sT ty e : TypeId) (size b off dLen dCap b' off' sLen sCap k : Nat) (L vs : List Value) (e' : TypeId) (fr : Nat × Nat) (hu : tyU P dT = some (.slice e)) (hs : tySize P e = some size)
    (hk : Nat.min sLen dLen = k) (hsrc : (loadCells ⟨b', off', none⟩ (k * size)).run P w = .ok vs.toArray w)
    (hd : w.heap[b]? = some (.cells L.toArray e' fr)) (hle : off + vs.length ≤ L.length) (hfr : frOk fr L.length) (hone : ∀ v ∈ vs, v.oneCell' = true) :
    (Builtin.copy_ #[dT, sT] ty #[.slice (some ⟨b, off, none⟩) dLen dCap, .slice (some ⟨b', off', none⟩) sLen sCap]).run P w = .ok (goInt k) (setB w b (.cells (L.take off ++ vs ++ L.drop (off + vs.length)).toArray e' fr)) := by
  have hst := run_storeCells_any (P := P) (off := off) vs 0 L w hd (by omega) hfr hone
  simp only [Nat.add_zero] at hst
  have h0 : (#[dT, sT] : Array TypeId)[0]? = some dT := rfl
  have h1 : (#[Value.slice (some ⟨b, off, none⟩) dLen dCap, .slice (some ⟨b', off', none⟩) sLen sCap] : Array Value)[0]? = some (.slice (some ⟨b, off, none⟩) dLen dCap) := rfl
  have h2 : (#[Value.slice (some ⟨b, off, none⟩) dLen dCap, .slice (some ⟨b', off', none⟩) sLen sCap] : Array Value)[1]? = some (.slice (some ⟨b', off', none⟩) sLen sCap) := rfl
  simp only [Builtin.copy_, h0, h1, h2, Sem.run_bind, r_underlying hu w, Result.andThen, Builtin.lenOf, Sem.run_pure, r_sizeOf hs w, hk, Builtin.firstCells, hsrc, hst]

/-- The question whether two rows of two blocks lie over one another. -/
theorem overlaps_any (w : World) (tS tR e : TypeId) (size : Nat) (hu : tyU P tS = some (.slice e)) (hs : tySize P e = some size) (a b la ca lb cb off : Nat) (hne : a ≠ b) (A B : List Value) (tA tB : TypeId) (fa fb : Nat × Nat)
    (ha : w.heap[a]? = some (.cells A.toArray tA fa)) (hb : w.heap[b]? = some (.cells B.toArray tB fb)) (hfa : frOk fa A.length) (hA : 0 < A.length) (hB : 0 < B.length) :
    ∃ (t : Bool) (w' : World), (Extern.SlicesOverlaps.overlaps #[tS, tS] #[tR] #[.slice (some ⟨a, 0, none⟩) la ca, .slice (some ⟨b, off, none⟩) lb cb]).run P w = .ok (.bool t) w' ∧ w'.heap = w.heap ∧ w'.os = w.os ∧ w'.tape = w.tape ∧ w'.output = w.output := by
  have hnb : (a != b) = true := by simpa using hne
  have hnb' : (a == b) = false := by simpa using hne
  have hfz : w.frozen? ⟨a, 0, none⟩ = false := by
    have := hfa.at 0 hA
    simp only [World.frozen?, ha]
    simpa using this
  have hsa : w.shape? a = some (tA, A.length) := by simp [World.shape?, ha]
  have hsb : w.shape? b = some (tB, B.length) := by simp [World.shape?, hb]
  obtain ⟨kA, hkA⟩ : ∃ k, A.length = k + 1 := ⟨A.length - 1, by omega⟩
  obtain ⟨kB, hkB⟩ : ∃ k, B.length = k + 1 := ⟨B.length - 1, by omega⟩
  rw [hkA] at hsa
  rw [hkB] at hsb
  by_cases h0 : la = 0 ∨ lb = 0 ∨ size = 0
  · refine ⟨false, w, ?_, rfl, rfl, rfl, rfl⟩
    show Sem.run P (underlying tS >>= _) w = _
    simp [r_underlying hu w, r_sizeOf hs w, h0]
  · by_cases h1 : w.frozen? ⟨a, kA + 1, none⟩ = true
    · by_cases h2 : w.frozen? ⟨b, off, none⟩ = true
      · refine ⟨(Question.cut (.extern "sameAddr.stringBytes" 2) (w.tape w.drawn (.extern "sameAddr.stringBytes" 2))) == 1, w.drew, ?_, rfl, rfl, rfl, rfl⟩
        show Sem.run P (underlying tS >>= _) w = _
        simp [r_underlying hu w, r_sizeOf hs w, h0, hnb, hnb', frozen, noView, viewAt, mayBeOne, stringish, shape, Sem.run, hsa, hsb, hfz, h1, h2, run_choose, Question.forced]
      · by_cases h3 : w.frozen? ⟨b, kB + 1, none⟩ = true
        · refine ⟨(Question.cut (.extern "sameAddr.stringBytes" 2) (w.tape w.drawn (.extern "sameAddr.stringBytes" 2))) == 1, w.drew, ?_, rfl, rfl, rfl, rfl⟩
          show Sem.run P (underlying tS >>= _) w = _
          simp [r_underlying hu w, r_sizeOf hs w, h0, hnb, hnb', frozen, noView, viewAt, mayBeOne, stringish, shape, Sem.run, hsa, hsb, hfz, h1, h2, h3, run_choose, Question.forced]
        · refine ⟨false, w, ?_, rfl, rfl, rfl, rfl⟩
          show Sem.run P (underlying tS >>= _) w = _
          simp [r_underlying hu w, r_sizeOf hs w, h0, hnb, hnb', frozen, noView, viewAt, mayBeOne, stringish, shape, Sem.run, hsa, hsb, hfz, h1, h2, h3]
    · refine ⟨false, w, ?_, rfl, rfl, rfl, rfl⟩
      show Sem.run P (underlying tS >>= _) w = _
      simp [r_underlying hu w, r_sizeOf hs w, h0, hnb, hnb', frozen, noView, viewAt, mayBeOne, stringish, shape, Sem.run, hsa, hsb, hfz, h1]
end Go.Proofs.YtpfagdkpolhopaaGreatDoor.sheetNew
namespace Go.Proofs.YtpfagdkpolhopaaGreatDoor.sheetNew
open Go Go.RowKit Go.Proofs.YtpfagdkpolhopaaGreatDoor.Ev

theorem noCount : NoCount Tryz.prog := noCount_of (by kernel_rfl)
theorem mixed : Tryz.prog.follows .mixedOrders = true := by kernel_rfl
theorem oneOf_one {v : Value} (h : v.oneCell' = true) : oneOf v = v := by cases v <;> first | rfl | cases h
theorem size_setB (w : World) (b : Nat) (ob : Obj) : (setB w b ob).heap.size = w.heap.size := by simp [setB]
/-- As another world but for the count of what was drawn. -/
theorem below_of {w w' : World} (h1 : w'.os = w.os) (h2 : w'.tape = w.tape) (h3 : w'.output = w.output) (h4 : w'.heap = w.heap) (n : Nat) : Below n w w' :=
  ⟨h1, h2, h3, by rw [h4]; exact Nat.le_refl _, fun _ _ => by rw [h4]⟩
/-- A block is turned: these cells, and as many more as before. -/
def Turned (w : World) (b n m : Nat) (l : List Value) (e : TypeId) (w' : World) : Prop := ∃ fr1 ex1, ex1.length = m ∧ frOk fr1 (n + m) ∧ Below w.heap.size (setB w b (.cells (l ++ ex1).toArray e fr1)) w'
/-- A row of its own. -/
def GrownTo (w : World) (l : List Value) (e : TypeId) (size : Nat) (q : Ending) (w' : World) : Prop := ∃ c ex, q = .returned (.slice (some ⟨w.heap.size, 0, none⟩) 3 (3 + c)) ∧ ex.length = c * size ∧ w'.os = w.os ∧ w'.tape = w.tape ∧ w'.output = w.output ∧ w'.heap = w.heap.push (.cells (l ++ ex).toArray e)
theorem push_set {α : Type} (a : Array α) (x y : α) : (a.push x).setIfInBounds a.size y = a.push y := by
  apply Array.ext_getElem?
  intro k
  rw [Array.getElem?_setIfInBounds, Array.getElem?_push, Array.getElem?_push]
  by_cases h : a.size = k
  · subst h; simp
  · rw [if_neg h, if_neg (fun e => h e.symm), if_neg (fun e => h e.symm)]
theorem below_swap {w W : World} {b : Nat} {o o' : Obj} (h2 : W.os = w.os) (h3 : W.tape = w.tape) (h4 : W.output = w.output) (h1 : W.heap = w.heap) {n : Nat} : Below n (setB w b o) (setB (setB W.drew b o') b o) := by
  rw [setB_setB]
  have e : (setB W.drew b o).heap = (setB w b o).heap := by show W.heap.setIfInBounds b o = w.heap.setIfInBounds b o; rw [h1]
  exact ⟨h2, h3, h4, by rw [e]; exact Nat.le_refl _, fun k _ => by rw [e]⟩
theorem below_turned {w W w' : World} {b : Nat} {o : Obj} (h2 : W.os = w.os) (h3 : W.tape = w.tape) (h4 : W.output = w.output) (h1 : W.heap = w.heap) {n : Nat} (h : Below n (setB W b o) w') : Below n (setB w b o) w' := by
  have e : (setB W b o).heap = (setB w b o).heap := by simp only [setB, h1]
  obtain ⟨g1, g2, g3, g4, g5⟩ := h
  exact ⟨g1.trans h2, g2.trans h3, g3.trans h4, by rw [← e]; exact g4, fun k hk => (g5 k hk).trans (by rw [e])⟩

noncomputable def rotHpId : Hp := ⟨T.leaf.set 0 (.row [.opq 10, .opq 11, .opq 12, .opq 13, .opq 14, .opq 15] 43 3 1 2), 20⟩
def rotOkId (o : Out) : Bool := match o.hp.objs.get 0 with
  | some (.row l e k cv s) => SV.sameL l [.opq 14, .opq 15, .opq 10, .opq 11, .opq 12, .opq 13] && Nat.beq e 43 && Nat.beq k 3 && Nat.beq cv 1 && Nat.beq s 2
  | _ => false
def rotAllId (r : R) : Bool := match r with
  | some outs => outs.all rotOkId
  | none => false
theorem rotSomeId {r : R} (h : rotAllId r = true) : ∃ outs, r = some outs ∧ outs.all rotOkId = true := by
  cases r with
  | none => cases h
  | some outs => exact ⟨outs, rfl, h⟩
set_option maxRecDepth 100000 in
theorem rotRunsId : rotAllId (run Tryz.prog .leaf 300 (.call 74 [.row 0 0 3 3 1, .lit (.int .i64 1)] rotHpId)) = true := by kernel_rfl
theorem rotId (b c : Nat) (x0 x1 x2 x3 y0 y1 : Value) (ex : List Value) (w : World) (fr : Nat × Nat) (hc : 3 ≤ c) (hl : 6 + ex.length = c * 2) (hb : w.heap[b]? = some (.cells (x0 :: x1 :: x2 :: x3 :: y0 :: y1 :: ex).toArray 43 fr)) (hfb : frOk fr (6 + ex.length)) (hone : ∀ v ∈ [x0, x1, x2, x3, y0, y1], v.oneCell' = true) :
    Calls Tryz.prog 74 #[.slice (some ⟨b, 0, none⟩) 3 c, .int .i64 1] w fun q w' => (∃ v, q = .returned v) ∧ ∃ fr1 ex1, ex1.length = ex.length ∧ frOk fr1 (6 + ex.length) ∧ Below w.heap.size (setB w b (.cells (y0 :: y1 :: x0 :: x1 :: x2 :: x3 :: ex1).toArray 43 fr1)) w' := by
  obtain ⟨outs, ho, hall⟩ := rotSomeId rotRunsId
  have hlt : b < w.heap.size := (Array.getElem?_eq_some_iff.1 hb).1
  let θ : Ren := ⟨fun _ => b, fun _ => c - 3, fun _ => 0, fun i => if i = 10 then x0 else if i = 11 then x1 else if i = 12 then x2 else if i = 13 then x3 else if i = 14 then y0 else if i = 15 then y1 else .bool false⟩
  have hget : ∀ b' o, rotHpId.objs.get b' = some o → b' = 0 ∧ o = .row [.opq 10, .opq 11, .opq 12, .opq 13, .opq 14, .opq 15] 43 3 1 2 := fun b' o h => by
    unfold rotHpId at h
    rw [show (Hp.mk (T.leaf.set 0 (.row [.opq 10, .opq 11, .opq 12, .opq 13, .opq 14, .opq 15] 43 3 1 2)) 20).objs = T.leaf.set 0 (.row [.opq 10, .opq 11, .opq 12, .opq 13, .opq 14, .opq 15] 43 3 1 2) from rfl, T.get_set] at h
    by_cases e : b' = 0
    · rw [if_pos e] at h; exact ⟨e, (Option.some.inj h).symm⟩
    · rw [if_neg e] at h; cases h
  have hrep : Rep (.plain .leaf) (fun k => k < w.heap.size ∧ k ≠ b) w θ (· < 20) rotHpId w := by
    refine ⟨rfl, rfl, rfl, Nat.le_refl _, fun _ _ => rfl, fun _ h => h.1, fun g cs h => (by cases h), fun b' o h => ?_, fun b1 b2 o1 o2 h1 h2 _ => (hget b1 o1 h1).1.trans (hget b2 o2 h2).1.symm, fun i hi => Nat.not_lt.2 hi, trivial⟩
    obtain ⟨rfl, rfl⟩ := hget b' o h
    refine ⟨by decide, fun h => h.2 rfl, ⟨by simp [SV.okL, SV.ok], by decide⟩, _, hb, fr, ex, ?_, ?_, ?_⟩
    · have := fun v hv => oneOf_one (hone v hv)
      simp only [List.mem_cons, List.not_mem_nil, or_false, forall_eq_or_imp, forall_eq] at this
      simp [concL, conc, θ, this]
    · simpa using hfb
    · show 6 + ex.length = (3 + (c - 3)) * 2
      rw [hl, Nat.add_sub_cancel' hc]
  have hcalls := ((run_sound (Γ := .plain .leaf) noCount mixed 300).1.call 74 _ rotHpId outs ho).2 _ w θ _ w hrep ⟨⟨by decide, by decide⟩, trivial, trivial⟩
  have hargs : (concL θ [.row 0 0 3 3 1, .lit (.int .i64 1)]).toArray = #[.slice (some ⟨b, 0, none⟩) 3 c, .int .i64 1] := by
    simp only [concL, conc, θ, Nat.add_sub_cancel' hc]
  rw [hargs] at hcalls
  refine (callsIn_wide.1 hcalls).mono ?_
  rintro q w' ⟨o, hm, θ', K', hg, hq, _, hr'⟩
  have hok := List.all_eq_true.1 hall o hm
  unfold rotOkId at hok
  split at hok
  · rename_i l e k cv s hobj
    simp only [Bool.and_eq_true] at hok
    obtain ⟨⟨⟨⟨hs1, hs2⟩, hs3⟩, hs4⟩, hs5⟩ := hok
    obtain rfl := sameL_eq _ _ hs1
    obtain rfl := Nat.eq_of_beq_eq_true hs2
    obtain rfl := Nat.eq_of_beq_eq_true hs3
    obtain rfl := Nat.eq_of_beq_eq_true hs4
    obtain rfl := Nat.eq_of_beq_eq_true hs5
    obtain ⟨k1, k2, k3, ob, k4, fr1, ex1, rfl, k6, k7⟩ := hr'.obj _ _ hobj
    have hblk : θ'.blk 0 = b := (hg.ext.blk 0 (by decide)).trans rfl
    have hcap : θ'.cap 1 = c - 3 := (hg.ext.cap 1 (by decide)).trans rfl
    have hopq : ∀ i, i < 20 → θ'.opq i = θ.opq i := fun i hi => hg.ext.opq i hi
    have hll : ([.opq 14, .opq 15, .opq 10, .opq 11, .opq 12, .opq 13] : List SV).length = 6 := rfl
    rw [hcap, Nat.add_sub_cancel' hc, ← hl, hll] at k7
    have hel : ex1.length = ex.length := by omega
    rw [hblk] at k4
    have hcs : concL θ' [.opq 14, .opq 15, .opq 10, .opq 11, .opq 12, .opq 13] ++ ex1 = y0 :: y1 :: x0 :: x1 :: x2 :: x3 :: ex1 := by
      have := fun v hv => oneOf_one (hone v hv)
      simp only [List.mem_cons, List.not_mem_nil, or_false, forall_eq_or_imp, forall_eq] at this
      simp only [concL, conc]
      simp only [hopq 10 (by decide), hopq 11 (by decide), hopq 12 (by decide), hopq 13 (by decide), hopq 14 (by decide), hopq 15 (by decide)]
      simp [θ, this]
    rw [hcs] at k4
    refine ⟨⟨_, hq⟩, fr1, ex1, hel, by rw [hll, hel] at k6; exact k6, hr'.os, hr'.tape, hr'.output, by rw [size_setB]; exact hr'.size, fun k hk => ?_⟩
    by_cases e : k = b
    · rw [e, k4, setB_same hb]
    · rw [setB_get, if_neg (fun h => e h.1)]
      exact hr'.kept k ⟨hk, e⟩
  · cases hok

set_option maxHeartbeats 4000000 in
set_option maxRecDepth 100000 in
theorem roomId (b c vb : Nat) (x0 x1 x2 x3 z0 z1 y0 y1 : Value) (ex : List Value) (w : World) (e' : TypeId) (fr fr' : Nat × Nat) (hne : vb ≠ b) (hc : 3 ≤ c) (hl : 6 + ex.length = c * 2)
    (hb : w.heap[b]? = some (.cells (x0 :: x1 :: x2 :: x3 :: z0 :: z1 :: ex).toArray 43 fr)) (hfb : frOk fr (6 + ex.length)) (hv : w.heap[vb]? = some (.cells ([y0, y1] : List Value).toArray e' fr')) (hfv : frOk fr' 2)
    (hone : ∀ v ∈ [x0, x1, x2, x3, y0, y1], v.oneCell' = true) :
    Calls Tryz.prog 46 #[.slice (some ⟨b, 0, none⟩) 2 c, .int .i64 0, .slice (some ⟨vb, 0, none⟩) 1 1] w fun q w' =>
      q = .returned (.slice (some ⟨b, 0, none⟩) 3 c) ∧ Turned w b 6 ex.length [y0, y1, x0, x1, x2, x3] 43 w' := by
  have hu : tyU Tryz.prog 27 = some (.slice 43) := by kernel_rfl
  have hs : tySize Tryz.prog 43 = some 2 := by kernel_rfl
  have hox : ∀ v ∈ [x0, x1, x2, x3], v.oneCell' = true := fun v hv => hone v (by simp only [List.mem_cons, List.not_mem_nil, or_false] at hv ⊢; first | exact .inl hv | (rcases hv with h | h <;> simp [h]) | (rcases hv with h | h | h | h <;> simp [h]) | simp [hv])
  have hoy : ∀ v ∈ [y0, y1], v.oneCell' = true := fun v hv => hone v (by simp only [List.mem_cons, List.not_mem_nil, or_false] at hv ⊢; first | exact .inl hv | (rcases hv with h | h <;> simp [h]) | (rcases hv with h | h | h | h <;> simp [h]) | simp [hv])
  have hov0 : ∀ x : Nat × Nat, ∃ r : Bool × World, (callFunc 73 #[.slice (some ⟨vb, 0, none⟩) 1 1, .slice (some ⟨b, 2, none⟩) x.1 x.2]).run Tryz.prog w = .ok (.value (.bool r.1)) r.2 ∧ r.2.heap = w.heap ∧ r.2.os = w.os ∧ r.2.tape = w.tape ∧ r.2.output = w.output := fun ⟨lb, cb⟩ => by
    obtain ⟨t, w', h1, h2⟩ := overlaps_any (P := Tryz.prog) w 27 4 43 2 hu hs vb b 1 1 lb cb 2 hne _ _ e' 43 fr' fr hv hb hfv (by simp) (by simp)
    refine ⟨(t, w'), ?_, h2⟩
    rw [run_callFunc_extern Tryz.func73 (by kernel_rfl) (by kernel_rfl) (by kernel_rfl) (e := Extern.SlicesOverlaps.overlaps #[27, 27] #[4]) (by kernel_rfl), h1]
    rfl
  obtain ⟨R, hR⟩ := Classical.axiomOfChoice hov0
  clear hov0
  have hov1 : ∀ lb cb, (callFunc 73 #[.slice (some ⟨vb, 0, none⟩) 1 1, .slice (some ⟨b, 2, none⟩) lb cb]).run Tryz.prog w = .ok (.value (.bool (R (lb, cb)).1)) (R (lb, cb)).2 := fun lb cb => (hR (lb, cb)).1
  obtain ⟨_, r1, r2, r3, r4⟩ := hR (2, c - 1)
  obtain ⟨W, hW⟩ : ∃ W, W = (R (2, c - 1)).2 := ⟨_, rfl⟩
  rw [← hW] at r1 r2 r3 r4
  have hcpH : ∀ (W : World), W.heap = w.heap → ∀ ty dc, (Builtin.copy_ #[27, 27] ty #[.slice (some ⟨b, 4, none⟩) 1 dc, .slice (some ⟨vb, 0, none⟩) 1 1]).run Tryz.prog W = .ok (goInt 1) (setB W b (.cells (x0 :: x1 :: x2 :: x3 :: y0 :: y1 :: ex).toArray 43 fr)) := fun W hW ty dc =>
    copy_any W _ _ ty 43 2 b 4 1 dc vb 0 1 1 1 (x0 :: x1 :: x2 :: x3 :: z0 :: z1 :: ex) [y0, y1] 43 fr hu hs rfl (load_any W vb 0 _ [y0, y1] [y0, y1] e' fr' (by rw [hW]; exact hv) rfl rfl) (by rw [hW]; exact hb) (by simp) (by rw [Nat.add_comm] at hfb; exact hfb) hoy
  have hcp1 : ∀ (W : World), W.heap = w.heap → ∀ ty dc sc, (Builtin.copy_ #[27, 27] ty #[.slice (some ⟨b, 2, none⟩) 2 dc, .slice (some ⟨b, 0, none⟩) 3 sc]).run Tryz.prog W = .ok (goInt 2) (setB W b (.cells (x0 :: x1 :: x0 :: x1 :: x2 :: x3 :: ex).toArray 43 fr)) := fun W hW ty dc sc =>
    copy_any W _ _ ty 43 2 b 2 2 dc b 0 3 sc 2 (x0 :: x1 :: x2 :: x3 :: z0 :: z1 :: ex) [x0, x1, x2, x3] 43 fr hu hs rfl (load_any W b 0 _ (x0 :: x1 :: x2 :: x3 :: z0 :: z1 :: ex) [x0, x1, x2, x3] 43 fr (by rw [hW]; exact hb) rfl rfl) (by rw [hW]; exact hb) (by simp) (by rw [Nat.add_comm] at hfb; exact hfb) hox
  have hcp2 : ∀ (W : World), W.heap[b]? = some (.cells (x0 :: x1 :: x0 :: x1 :: x2 :: x3 :: ex).toArray 43 fr) → W.heap[vb]? = some (.cells ([y0, y1] : List Value).toArray e' fr') → ∀ ty dc, (Builtin.copy_ #[27, 27] ty #[.slice (some ⟨b, 0, none⟩) 3 dc, .slice (some ⟨vb, 0, none⟩) 1 1]).run Tryz.prog W = .ok (goInt 1) (setB W b (.cells (y0 :: y1 :: x0 :: x1 :: x2 :: x3 :: ex).toArray 43 fr)) := fun W h1 h2 ty dc =>
    copy_any W _ _ ty 43 2 b 0 3 dc vb 0 1 1 1 (x0 :: x1 :: x0 :: x1 :: x2 :: x3 :: ex) [y0, y1] 43 fr hu hs rfl (load_any W vb 0 _ [y0, y1] [y0, y1] e' fr' h2 rfl rfl) h1 (by simp) (by rw [Nat.add_comm] at hfb; exact hfb) hoy
  have hd : W.drew.heap = w.heap := r1
  have hb1 : (setB W.drew b (.cells (x0 :: x1 :: x0 :: x1 :: x2 :: x3 :: ex).toArray 43 fr)).heap[b]? = some (.cells (x0 :: x1 :: x0 :: x1 :: x2 :: x3 :: ex).toArray 43 fr) := setB_same (by rw [hd]; exact hb)
  have hv1 : (setB W.drew b (.cells (x0 :: x1 :: x0 :: x1 :: x2 :: x3 :: ex).toArray 43 fr)).heap[vb]? = some (.cells ([y0, y1] : List Value).toArray e' fr') := by rw [setB_get, if_neg (fun h => hne h.1), hd]; exact hv
  have hbH : (setB W b (.cells (x0 :: x1 :: x2 :: x3 :: y0 :: y1 :: ex).toArray 43 fr)).heap[b]? = some (.cells (x0 :: x1 :: x2 :: x3 :: y0 :: y1 :: ex).toArray 43 fr) := setB_same (by rw [r1]; exact hb)
  have hrot := rotId b c x0 x1 x2 x3 y0 y1 ex (setB W b (.cells (x0 :: x1 :: x2 :: x3 :: y0 :: y1 :: ex).toArray 43 fr)) fr hc hl hbH hfb hone
  have hc1 : ¬ ((c : Int) < 3) := by omega
  have hc2 : ¬ (c = 1) := by omega
  have hc3 : ¬ (c = 0) := by omega
  have hc4 : ¬ (c = 2) := by omega
  have hszw : w.heap.size = W.heap.size := by rw [r1]
  have hw1 : IntKind.i64.wrap 1 = 1 := by decide
  subst hW
  go_enter Tryz.func46, Tryz.ntmps46
  go_wp2_with (first
    | simp only [hov1]
    | (at_builtin; refine Go.Proofs.wpList_copy_runI _ rfl _ _ 27 27 rfl _ _ rfl rfl (hcpH _ r1 _ _) ?_)
    | (go_at_call 74; refine hrot.mono ?_; rintro q w' ⟨⟨v, rfl⟩, fr1, ex1, h1, h2, h3⟩))
  · go_region_law (refine Go.Proofs.step_copy_runI rfl _ _ 27 27 rfl (.slice (some ⟨b, 2, none⟩) 2 (c - 1)) (.slice (some ⟨b, 0, none⟩) 3 c) (by simp [Act.eval, Act.put]) (by simp [Act.eval, Act.put]) (hcp1 (R (2, c - 1)).2.drew r1 3 (c - 1) c) ?_)
    go_wp2_with (at_builtin; refine Go.Proofs.wpList_copy_runI _ rfl _ _ 27 27 rfl _ _ rfl rfl (hcp2 (setB (R (2, c - 1)).2.drew b (.cells (x0 :: x1 :: x0 :: x1 :: x2 :: x3 :: ex).toArray 43 fr)) hb1 hv1 _ _) ?_)
    go_ret
    exact ⟨rfl, fr, ex, rfl, hfb, below_swap r2 r3 r4 r1⟩
  · go_ret
    refine ⟨rfl, fr1, ex1, h1, by simpa only [hl] using h2, ?_⟩
    have h3 := h3
    simp only [setB_setB, size_setB] at h3
    rw [hszw]
    exact below_turned r2 r3 r4 r1 h3

set_option maxHeartbeats 4000000 in
set_option maxRecDepth 100000 in
theorem growId (b vb : Nat) (x0 x1 x2 x3 y0 y1 : Value) (w : World) (e' : TypeId) (fr fr' : Nat × Nat)
    (hb : w.heap[b]? = some (.cells ([x0, x1, x2, x3] : List Value).toArray 43 fr)) (hv : w.heap[vb]? = some (.cells ([y0, y1] : List Value).toArray e' fr'))
    (hone : ∀ v ∈ [x0, x1, x2, x3, y0, y1], v.oneCell' = true) :
    Calls Tryz.prog 46 #[.slice (some ⟨b, 0, none⟩) 2 2, .int .i64 0, .slice (some ⟨vb, 0, none⟩) 1 1] w fun q w' =>
      GrownTo w [y0, y1, x0, x1, x2, x3] 43 2 q w' := by
  have hu : tyU Tryz.prog 27 = some (.slice 43) := by kernel_rfl
  have hs : tySize Tryz.prog 43 = some 2 := by kernel_rfl
  have hox : ∀ v ∈ [x0, x1, x2, x3], v.oneCell' = true := fun v hv => hone v (by simp only [List.mem_cons, List.not_mem_nil, or_false] at hv ⊢; first | exact .inl hv | (rcases hv with h | h <;> simp [h]) | (rcases hv with h | h | h | h <;> simp [h]) | simp [hv])
  have hoy : ∀ v ∈ [y0, y1], v.oneCell' = true := fun v hv => hone v (by simp only [List.mem_cons, List.not_mem_nil, or_false] at hv ⊢; first | exact .inl hv | (rcases hv with h | h <;> simp [h]) | (rcases hv with h | h | h | h <;> simp [h]) | simp [hv])
  have hbw : b < w.heap.size := (Array.getElem?_eq_some_iff.1 hb).1
  have hvw : vb < w.heap.size := (Array.getElem?_eq_some_iff.1 hv).1
  obtain ⟨i0, z, hi0, hz0, hzs, hzb, hzl⟩ : ∃ (i : TypeInfo) (z : Value), Tryz.prog.info? 43 = some i ∧ i.zero = some z ∧ i.size = 2 ∧ i.bytes ≤ 1000 ∧ z.cells.size = 2 := ⟨_, _, rfl, rfl, rfl, by decide, rfl⟩
  have hold : (Builtin.firstCells i0.size 0 (.slice (some ⟨b, 0, none⟩) 0 2)).run Tryz.prog w.drew = .ok ([] : List Value).toArray w.drew := by
    simp only [Builtin.firstCells, Nat.zero_mul]
    exact load_any w.drew b 0 0 _ [] 43 fr hb rfl rfl
  obtain ⟨G, hG⟩ : ∃ G, G = grownCap w 3 2 43 := ⟨_, rfl⟩
  have hG3 : 3 ≤ G := by rw [hG]; exact grownCap_ge w _ _ _
  obtain ⟨ROW, hROW⟩ : ∃ ROW : Array Value, ROW = ([] : List Value).toArray ++ Builtin.zeroCells z.cells 3 ++ Builtin.zeroCells z.cells (G - 3) := ⟨_, rfl⟩
  have hrz : ∀ ty, (Builtin.append_ #[27, 3] ty #[.slice (some ⟨b, 0, none⟩) 0 2, .int .i64 3]).run Tryz.prog w = .ok (.slice (some ⟨w.heap.size, 0, none⟩) 3 G) (w.drew.alloc (.cells ROW 43)) := fun ty => by
    have h := Lib.run_append_grow_zeros (P := Tryz.prog) w 27 3 ty 43 i0 z .i64 .i64 (by kernel_rfl) (by kernel_rfl) hi0 hz0 (some ⟨b, 0, none⟩) 0 2 [] hold 3 (by omega) (by omega) (by omega) (by omega) (by omega) (by
      have : Builtin.nextslicecap (0 + 3) 2 = 4 := by decide
      rw [this]; omega)
    rw [hROW, hG]
    exact h
  have hRl : ROW.toList.length = 3 * 2 + (G - 3) * 2 := by
    rw [hROW]
    simp [Builtin.zeroCells, hzl]
    try omega
  obtain ⟨L, hL⟩ : ∃ L : List Value, L = ROW.toList := ⟨_, rfl⟩
  have hRL : ROW = L.toArray := by rw [hL]
  rw [← hL] at hRl
  clear hROW hL
  subst hRL
  have hN : ∀ (W : World), W.heap = w.heap.push (.cells L.toArray 43) → W.heap[w.heap.size]? = some (.cells L.toArray 43 (0, 0)) ∧ W.heap[b]? = some (.cells ([x0, x1, x2, x3] : List Value).toArray 43 fr) ∧ W.heap[vb]? = some (.cells ([y0, y1] : List Value).toArray e' fr') := fun W hW => by
    rw [hW]
    refine ⟨by simp, ?_, ?_⟩
    · rw [Array.getElem?_push, if_neg (by omega)]; exact hb
    · rw [Array.getElem?_push, if_neg (by omega)]; exact hv
  obtain ⟨L1, hL1⟩ : ∃ L1, L1 = L.drop 2 := ⟨_, rfl⟩
  obtain ⟨L2, hL2⟩ : ∃ L2, L2 = L.drop 6 := ⟨_, rfl⟩
  have hdr : ([y0, y1] ++ L1).drop 6 = L2 := by rw [hL1, hL2]; simp
  have hl1 : L1.length = 2 * 2 + (G - 3) * 2 := by rw [hL1, List.length_drop, hRl]; omega
  have hl2 : L2.length = (G - 3) * 2 := by rw [hL2, List.length_drop, hRl]; omega
  have hcpA : ∀ (W : World), W.heap = w.heap.push (.cells L.toArray 43) → ∀ ty dc, (Builtin.copy_ #[27, 27] ty #[.slice (some ⟨w.heap.size, 0, none⟩) 3 dc, .slice (some ⟨vb, 0, none⟩) 1 1]).run Tryz.prog W = .ok (goInt 1) (setB W w.heap.size (.cells ([y0, y1] ++ L1).toArray 43)) := fun W hW ty dc => by
    have h := copy_any (P := Tryz.prog) W 27 27 ty 43 2 w.heap.size 0 3 dc vb 0 1 1 1 L [y0, y1] 43 (0, 0) hu hs rfl (load_any W vb 0 _ [y0, y1] [y0, y1] e' fr' (hN W hW).2.2 rfl rfl) (hN W hW).1 (by simp; omega) (.inl rfl) hoy
    have h2 : L.drop (0 + ([y0, y1] : List Value).length) = L1 := by rw [hL1]; rfl
    rw [h2] at h
    exact h
  have hcpB : ∀ (W : World), W.heap[w.heap.size]? = some (.cells ([y0, y1] ++ L1).toArray 43 (0, 0)) → W.heap[b]? = some (.cells ([x0, x1, x2, x3] : List Value).toArray 43 fr) → ∀ ty dc sc, (Builtin.copy_ #[27, 27] ty #[.slice (some ⟨w.heap.size, 2, none⟩) 2 dc, .slice (some ⟨b, 0, none⟩) 2 sc]).run Tryz.prog W = .ok (goInt 2) (setB W w.heap.size (.cells ([y0, y1, x0, x1, x2, x3] ++ L2).toArray 43)) := fun W h1 h2 ty dc sc => by
    have h := copy_any (P := Tryz.prog) W 27 27 ty 43 2 w.heap.size 2 2 dc b 0 2 sc 2 ([y0, y1] ++ L1) [x0, x1, x2, x3] 43 (0, 0) hu hs rfl (load_any W b 0 _ [x0, x1, x2, x3] [x0, x1, x2, x3] 43 fr h2 rfl rfl) h1 (by simp; omega) (.inl rfl) hox
    have h2 : ([y0, y1] ++ L1).drop (2 + ([x0, x1, x2, x3] : List Value).length) = L2 := hdr
    rw [h2] at h
    exact h
  have hA : ((w.alloc (.cells L.toArray 43)).drew).heap = w.heap.push (.cells L.toArray 43) := rfl
  have hB1 : (setB ((w.alloc (.cells L.toArray 43)).drew) w.heap.size (.cells ([y0, y1] ++ L1).toArray 43)).drew.heap[w.heap.size]? = some (.cells ([y0, y1] ++ L1).toArray 43 (0, 0)) := setB_same (hN _ hA).1
  have hB2 : (setB ((w.alloc (.cells L.toArray 43)).drew) w.heap.size (.cells ([y0, y1] ++ L1).toArray 43)).drew.heap[b]? = some (.cells ([x0, x1, x2, x3] : List Value).toArray 43 fr) := by
    show (setB ((w.alloc (.cells L.toArray 43)).drew) w.heap.size _).heap[b]? = _
    rw [setB_get, if_neg (fun h => Nat.ne_of_lt hbw h.1)]
    exact (hN _ hA).2.1
  have hfin : GrownTo w [y0, y1, x0, x1, x2, x3] 43 2 (.returned (.slice (some ⟨w.heap.size, 0, none⟩) 3 G)) (setB (setB ((w.alloc (.cells L.toArray 43)).drew) w.heap.size (.cells ([y0, y1] ++ L1).toArray 43)).drew w.heap.size (.cells ([y0, y1, x0, x1, x2, x3] ++ L2).toArray 43)) := by
    refine ⟨G - 3, L2, ?_, hl2, rfl, rfl, rfl, ?_⟩
    · rw [Nat.add_sub_cancel' hG3]
    · have e1 : ∀ (W : World) (o : Obj), (setB W.drew w.heap.size o).heap = (setB W w.heap.size o).heap := fun _ _ => rfl
      rw [e1, setB_setB]
      show (w.heap.push _).setIfInBounds w.heap.size _ = _
      rw [push_set]
  have hw1 : IntKind.i64.wrap 1 = 1 := by decide
  have hg1 : ¬ (G = 1) := by omega
  have hg0 : ¬ (G = 0) := by omega
  obtain ⟨PP, hPP⟩ : ∃ PP : Ending → World → Prop, PP = GrownTo w [y0, y1, x0, x1, x2, x3] 43 2 := ⟨_, rfl⟩
  show Calls Tryz.prog 46 _ w fun q w' => GrownTo w [y0, y1, x0, x1, x2, x3] 43 2 q w'
  rw [← hPP] at hfin ⊢
  clear hG hold hPP hRl hL1 hL2 hdr hl1 hl2
  go_enter Tryz.func46, Tryz.ntmps46
  go_wp2_with (first
    | (at_builtin; refine Lib.wpList_append_run _ rfl _ _ _ _ rfl _ _ rfl rfl _ _ (hrz _) ?_)
    | (at_builtin; refine Go.Proofs.wpList_copy_runI _ rfl _ _ 27 27 rfl _ _ rfl rfl (hcpA _ hA _ _) ?_))
  go_region_law (refine Go.Proofs.step_copy_runI rfl _ _ 27 27 rfl (.slice (some ⟨w.heap.size, 2, none⟩) 2 (G - 1)) (.slice (some ⟨b, 0, none⟩) 2 2) (by simp [Act.eval, Act.put]) (by simp [Act.eval, Act.put]) (hcpB _ hB1 hB2 3 (G - 1) 2) ?_)
  go_wp2
  exact hfin
end Go.Proofs.YtpfagdkpolhopaaGreatDoor.sheetNew
