/-
  THE ODD LETTER OF 'counterpanelaw39.MinePassed': its cells, what is known of it, and the words of the oracle: the document's example, the calls that were run by themselves, 'oplog.Right' of its deed, and 'Did' of it where that counts for nothing; by the author of this claim. | THE LAW 'counterpanelaw39.MinePassed', PIECE BY PIECE: three regions of its text by hand (how many letters there are, whether the odd one counts, which one is taken back), over any frame; by the author of this claim, in the calculus of runs over an oracle.
-/
import Derived.Test.YtcnfmcbmephdfaaGreatDoorDeW
import Derived.Test.YtcnfmcbmephdfaaGreatDoorEvGH
import Derived.Test.YtcnfmcbmephdfaaGreatDoorPsWZ
import Derived.Test.YtcnfmcbmephdfaaGreatDoorPsX
namespace Go.Proofs.YtcnfmcbmephdfaaGreatDoor.minePassed
open Go Go.RowKit Go.Proofs.YtcnfmcbmephdfaaGreatDoor.Ev Go.Proofs.YtcnfmcbmephdfaaGreatDoor.d Go.Proofs.YtcnfmcbmephdfaaGreatDoor.snap
structure LD where
  d0 : Int
  d1 : Int
  dk : Int
  e0 : Int
  e1 : Int
  e2 : Int
  e3 : Int
  t0 : Int
  t1 : Int
  tx : List UInt8
  ca : Int
  p0 : Int
  p1 : Int
  p2 : Int
  p3 : List UInt8
  p4 : Bool
  p5 : Int
  x : ND
  ks : List Tr
  v : Value
  c39 : Value
def LD.cells (l : LD) : List SV := [.lit (.int .i64 l.d0), .lit (.int .i64 l.d1), .lit (.int .i64 l.dk), .lit (.int .i64 l.e0), .lit (.int .i64 l.e1), .lit (.int .i64 l.e2), .lit (.int .i64 l.e3), .lit (.int .i64 l.t0), .lit (.int .i64 l.t1), .lit (.string ⟨⟨l.tx⟩⟩), .lit (.int .i64 l.ca), .lit (.int .i64 l.p0), .lit (.int .i64 l.p1), .lit (.int .i64 l.p2), .lit (.string ⟨⟨l.p3⟩⟩), .lit (.bool l.p4), .lit (.int .i64 l.p5)] ++ l.x.cells (.lit l.v) ++ [.lit l.c39]
def LD.deed (l : LD) : List SV := [.lit (.int .i64 l.d0), .lit (.int .i64 l.d1), .lit (.int .i64 l.dk), .lit (.int .i64 l.e0), .lit (.int .i64 l.e1), .lit (.int .i64 l.e2), .lit (.int .i64 l.e3), .lit (.int .i64 l.t0), .lit (.int .i64 l.t1), .lit (.string ⟨⟨l.tx⟩⟩), .lit (.int .i64 l.ca), .lit (.int .i64 l.p0), .lit (.int .i64 l.p1), .lit (.int .i64 l.p2), .lit (.string ⟨⟨l.p3⟩⟩), .lit (.bool l.p4), .lit (.int .i64 l.p5)] ++ l.x.cells (.lit l.v)
def LD.right (l : LD) : Bool := oRight l.d0 l.d1 l.dk l.e0 l.e1 l.e2 l.e3 l.t0 l.t1 l.tx l.ca l.p0 l.p1 l.p2 l.p3 l.p4 l.p5 l.x l.ks
def oddDeed (k : Int) : List SV := .opq 0 :: .opq 1 :: .lit (.int .i64 k) :: opqs 3 36
def oddCells (k : Int) : List SV := .opq 0 :: .opq 1 :: .lit (.int .i64 k) :: opqs 3 37
def isDeed (k : Int) (args : List SV) : Bool := match args with
  | [.agg l] => SV.eqvL l (oddDeed k)
  | _ => false
def undoerAt (hp : Hp) (u : Nat) : Bool := match hp.objs.get u with
  | some (.cells [.ptr _ 0, _, _] e) => Nat.beq e 91
  | _ => false
def isDid (k : Int) (args : List SV) (hp : Hp) : Bool := match args with
  | [.ptr u 0, .agg l] => SV.eqvL l (oddCells k) && undoerAt hp u
  | _ => false
def mem (k : Int) (B C : Bool) : Oracle := fun f args hp =>
  bif Nat.beq f 4 then (match args with
    | [] => some (told hp [.bool true])
    | _ => none)
  else bif Nat.beq f 8 && isDeed k args then some (told hp [.bool B])
  else bif Nat.beq f 7 && (isDid k args hp && C) then some (told hp [.tuple #[]])
  else memo tab f args hp
theorem isDeed_eq {k : Int} {args : List SV} (h : isDeed k args = true) : args = [.agg (oddDeed k)] := by
  unfold isDeed at h
  split at h
  · rw [eqvL_eq _ _ h]
  · cases h
theorem undoerAt_eq {hp : Hp} {u : Nat} (h : undoerAt hp u = true) : ∃ wb l1 l2, hp.objs.get u = some (.cells [.ptr wb 0, l1, l2] 91) := by
  unfold undoerAt at h
  split at h
  · rename_i wb l1 l2 e hb
    obtain rfl : e = 91 := eq_of_beq h
    exact ⟨wb, l1, l2, hb⟩
  · cases h
theorem isDid_eq {k : Int} {args : List SV} {hp : Hp} (h : isDid k args hp = true) : ∃ u wb l1 l2, args = [.ptr u 0, .agg (oddCells k)] ∧ hp.objs.get u = some (.cells [.ptr wb 0, l1, l2] 91) := by
  unfold isDid at h
  split at h
  · rename_i u l
    rw [Bool.and_eq_true] at h
    obtain ⟨wb, l1, l2, hb⟩ := undoerAt_eq h.2
    exact ⟨u, wb, l1, l2, by rw [eqvL_eq _ _ h.1], hb⟩
  · cases h
def oddInv (D : LD) (xs : List Value) (X : Nat → Prop) (w0 : World) (θ : Ren) (K : Nat → Prop) : Prop :=
  (∀ i, i < 40 → K i ∧ oneOf (θ.opq i) = xs.getD i undef) ∧ ∃ Γx : Glob, (∀ g cs, Γx.get g = some cs → X g ∧ ∃ e fr, w0.heap[g]? = some (.cells cs.toArray e fr)) ∧ ∀ h, KidsOf Γx h (.lit D.v) D.ks
def oddEnv (D : LD) (xs : List Value) : Env where
  tab := Γ0
  inv := oddInv D xs
  ext := fun ⟨h1, h2⟩ he hk => ⟨fun i hi => ⟨hk i (h1 i hi).1, by rw [he.opq i (h1 i hi).1]; exact (h1 i hi).2⟩, h2⟩
  base := fun ⟨h1, Γx, h2, h3⟩ hx hw _ => ⟨h1, Γx, fun g cs hg => by
    obtain ⟨k1, e, fr, k2⟩ := h2 g cs hg
    exact ⟨hx g k1, e, fr, (hw g k1).trans k2⟩, h3⟩
theorem rep_met {Γ : Env} {X : Nat → Prop} {w0 : World} {θ : Ren} {K : Nat → Prop} {hp : Hp} {w : World} (hr : Rep Γ X w0 θ K hp w) : globMet Γ.tab w := fun g cs hg => by
  obtain ⟨k1, e, fr, k2⟩ := hr.glob g cs hg
  exact ⟨e, fr, (hr.kept g k1).trans k2⟩
end Go.Proofs.YtcnfmcbmephdfaaGreatDoor.minePassed
namespace Go.Proofs.YtcnfmcbmephdfaaGreatDoor.minePassed
open Go Go.RowKit Go.Proofs.YtcnfmcbmephdfaaGreatDoor.Ev Go.Proofs.YtcnfmcbmephdfaaGreatDoor.d Go.Proofs.YtcnfmcbmephdfaaGreatDoor.snap
def oneN (r : R) : Bool := match r with
  | some [⟨.normal, _, _, _⟩] => true
  | _ => false
def frOf (r : R) : Fr := match r with
  | some (o :: _) => o.fr
  | _ => ⟨.leaf, 0, []⟩
def hpOf (r : R) : Hp := match r with
  | some (o :: _) => o.hp
  | _ => ⟨.leaf, 0⟩
section
variable {P : Program} {Γ : Glob} {mem : Oracle} {Φ : Out → Prop} {next : Fr → Hp → Prop}
theorem piece {c : Code} {fr : Fr} {hp : Hp} (n : Nat) (h : oneN (runO P Γ mem n (.code c none fr hp)) = true) (hn : next (frOf (runO P Γ mem n (.code c none fr hp))) (hpOf (runO P Γ mem n (.code c none fr hp)))) : O.Runs P Γ mem (.code c none fr hp) (O.Then next Φ) := by
  cases hr : runO P Γ mem n (.code c none fr hp) with
  | none => rw [hr] at h; cases h
  | some l =>
    rw [hr] at h hn
    unfold oneN at h
    split at h
    · rename_i l' fr' hp' v hl
      obtain rfl := Option.some.inj hl
      refine O.Runs.intro n hr fun o ho => ?_
      obtain rfl := List.mem_singleton.1 ho
      exact hn
    · cases h
theorem pieceR {c : Code} {fr : Fr} {hp : Hp} {r : R} (n : Nat) (hr : runO P Γ mem n (.code c none fr hp) = r) (h : oneN r = true) (hn : next (frOf r) (hpOf r)) : O.Runs P Γ mem (.code c none fr hp) (O.Then next Φ) := by
  subst hr
  exact piece n h hn
theorem thenN {fr : Fr} {hp : Hp} {v : SV} (h : next fr hp) : O.Then next Φ ⟨.normal, fr, hp, v⟩ := h
def endTrue (r : R) : Bool := match r with
  | some l => l.all fun o => match o with
    | ⟨.ret, ⟨t, _, []⟩, _, _⟩ => (match t.get 6 with
      | some (.lit (.bool true)) => true
      | _ => false)
    | _ => false
  | none => false
theorem endTrue_spec {r : R} (h : endTrue r = true) : ∃ l, r = some l ∧ ∀ o ∈ l, ∃ t n hp v, o = ⟨.ret, ⟨t, n, []⟩, hp, v⟩ ∧ t.get 6 = some (.lit (.bool true)) := by
  unfold endTrue at h
  split at h
  · rename_i l
    refine ⟨l, rfl, fun o ho => ?_⟩
    have := List.all_eq_true.1 h o ho
    split at this
    · rename_i t n hp v
      split at this
      · rename_i hg
        exact ⟨t, n, hp, v, rfl, hg⟩
      · cases this
    · cases this
  · cases h
end
noncomputable def body : Code := bodyOf Tryz.f3
noncomputable def c0 : Code := seqL body
noncomputable def r0 : Code := seqR body
noncomputable def c1 : Code := seqL r0
noncomputable def r1 : Code := seqR r0
noncomputable def c3 : Code := seqL r1
noncomputable def r3 : Code := seqR r1
noncomputable def c4 : Code := seqL r3
noncomputable def r4 : Code := seqR r3
noncomputable def c6 : Code := seqL r4
noncomputable def r6 : Code := seqR r4
noncomputable def c7 : Code := seqL r6
noncomputable def r7 : Code := seqR r6
noncomputable def c8 : Code := seqL r7
noncomputable def r8 : Code := seqR r7
noncomputable def c17 : Code := seqL r8
noncomputable def r17 : Code := seqR r8
noncomputable def c21 : Code := seqL r17
noncomputable def r21 : Code := seqR r17
noncomputable def c19 : Code := seqR (condL (seqR c17))
section
variable {M : Oracle} {Φ : Out → Prop} {next : Fr → Hp → Prop} {h : Hp} {tm : T SV}
theorem wrap64 {z : Int} (h1 : 0 ≤ z) (h2 : z < 1000) : IntKind.i64.wrap z = z := snap.wrap_in (by omega) (by omega)
set_option maxRecDepth 20000 in
theorem conv_b {Γ : Glob} {h : Hp} {z : Int} (h1 : 0 ≤ z) (h2 : z < 1000) : convertQ Tryz.prog Γ h 5 3 (.lit (.int .u8 z)) = some (.lit (.int .i64 z), []) := by
  show some (SV.lit (.int .i64 (IntKind.i64.wrap z)), ([] : List Fact)) = _
  rw [wrap64 h1 h2]
def t6 (tm : T SV) (m n : Int) : T SV := ((((tm.set 32 (.lit (.int .u8 m))).set 33 (.lit (.int .i64 m))).set 34 (.lit (.int .i64 (m % 6)))).set 35 (.lit (.int .i64 n))).set 9 (.lit (.int .i64 n))
set_option maxRecDepth 20000 in
theorem many_runs {m n : Int} (h0 : 0 ≤ m) (h1 : m < 256) (hn : 1 + m % 6 = n) (e0 : Fr.ev ⟨tm, 174, []⟩ (.tmp 0) = .lit (.int .u8 m)) (kn : next ⟨t6 tm m n, 174, []⟩ h) : O.Runs Tryz.prog Γ0 M (.code c6 none ⟨tm, 174, []⟩ h) (O.Then next Φ) := by
  refine O.runs_region ?_
  refine O.ops_q (v := .lit (.int .u8 m)) (fs := []) rfl (by simp only [quiet, e0]) rfl rfl ?_
  refine O.ops_q (v := .lit (.int .i64 m)) (fs := []) rfl (by simp only [quiet, ev_set]; exact conv_b (by omega) (by omega)) rfl rfl ?_
  refine O.ops_q (v := .lit (.int .i64 (m % 6))) (fs := []) rfl (by simp only [quiet, ev_set]; exact congrArg one (a3_rem h0 (by omega) (by omega))) rfl rfl ?_
  refine O.ops_q (v := .lit (.int .i64 n)) (fs := []) rfl (by simp only [quiet, ev_set]; exact congrArg one (a3_add hn (by omega) (by omega))) rfl rfl ?_
  refine O.ops_q (v := .lit (.int .i64 n)) (fs := []) rfl (by simp only [quiet, ev_set]; rfl) rfl rfl ?_
  exact O.ops_nil kn
def t21 (tm : T SV) (w n k : Int) : T SV := ((((tm.set 82 (.lit (.int .u8 w))).set 83 (.lit (.int .i64 w))).set 84 (.lit (.int .i64 n))).set 85 (.lit (.int .i64 k))).set 15 (.lit (.int .i64 k))
set_option maxRecDepth 20000 in
theorem which_runs {w n k : Int} (h0 : 0 ≤ w) (h1 : w < 256) (hn : 0 < n) (hk : w % n = k) (e1 : Fr.ev ⟨tm, 174, []⟩ (.tmp 1) = .lit (.int .u8 w)) (e9 : Fr.ev ⟨tm, 174, []⟩ (.tmp 9) = .lit (.int .i64 n)) (kn : next ⟨t21 tm w n k, 174, []⟩ h) : O.Runs Tryz.prog Γ0 M (.code c21 none ⟨tm, 174, []⟩ h) (O.Then next Φ) := by
  refine O.runs_region ?_
  refine O.ops_q (v := .lit (.int .u8 w)) (fs := []) rfl (by simp only [quiet, e1]) rfl rfl ?_
  refine O.ops_q (v := .lit (.int .i64 w)) (fs := []) rfl (by simp only [quiet, ev_set]; exact conv_b (by omega) (by omega)) rfl rfl ?_
  refine O.ops_q (v := .lit (.int .i64 n)) (fs := []) rfl (by simp only [quiet, ev_set]; exact congrArg (fun v => some (v, [])) e9) rfl rfl ?_
  refine O.ops_q (v := .lit (.int .i64 k)) (fs := []) rfl (by simp only [quiet, ev_set]; exact congrArg one ((a3_rem h0 hn (by omega)).trans (by rw [hk]))) rfl rfl ?_
  refine O.ops_q (v := .lit (.int .i64 k)) (fs := []) rfl (by simp only [quiet, ev_set]; rfl) rfl rfl ?_
  exact O.ops_nil kn
def t17 (tm : T SV) (b : Nat) (v2 v3 v4 v5 v6 v7 v8 v9 : SV) : T SV := (((((((((tm.set 63 (.ptr b 0)).set 64 (.ptr b 2)).set 65 v2).set 66 v3).set 67 v4).set 68 v5).set 69 v6).set 70 v7).set 71 v8).set 72 v9
def t18 (tm : T SV) (p u : Nat) (v5 v6 : SV) : T SV := (((tm.set 73 (.ptr p 2)).set 74 (.ptr u 0)).set 75 v5).set 76 v6
theorem opqs_eqv : ∀ (n k : Nat), SV.eqvL (opqs k n) (opqs k n) = true
  | 0, _ => rfl
  | n + 1, k => by
    show (Nat.beq k k && SV.eqvL (opqs (k + 1) n) (opqs (k + 1) n)) = true
    rw [beq_t rfl, opqs_eqv n (k + 1)]
    rfl
theorem eqv_odd (k : Int) : SV.eqvL (oddCells k) (oddCells k) = true ∧ SV.eqvL (oddDeed k) (oddDeed k) = true := by
  have h : litEq (.int .i64 k) (.int .i64 k) = true := by simp [litEq]
  constructor
  · show (Nat.beq 0 0 && (Nat.beq 1 1 && (litEq (.int .i64 k) (.int .i64 k) && SV.eqvL (opqs 3 37) (opqs 3 37)))) = true
    rw [h, opqs_eqv]
    rfl
  · show (Nat.beq 0 0 && (Nat.beq 1 1 && (litEq (.int .i64 k) (.int .i64 k) && SV.eqvL (opqs 3 36) (opqs 3 36)))) = true
    rw [h, opqs_eqv]
    rfl
theorem mem_right (k : Int) (B C : Bool) (h : Hp) : mem k B C 8 [.agg (oddDeed k)] h = some (told h [.bool B]) := by
  have h1 : isDeed k [.agg (oddDeed k)] = true := (eqv_odd k).2
  unfold mem
  rw [h1, show Nat.beq 8 4 = false from rfl, cond_false, show (Nat.beq 8 8 && true) = true from rfl, cond_true]
theorem mem_did (k : Int) (B : Bool) {h : Hp} {u : Nat} (hu : undoerAt h u = true) : mem k B true 7 [.ptr u 0, .agg (oddCells k)] h = some (told h [.tuple #[]]) := by
  have h1 : isDid k [.ptr u 0, .agg (oddCells k)] h = true := by
    show (SV.eqvL (oddCells k) (oddCells k) && undoerAt h u) = true
    rw [(eqv_odd k).1, hu]
    rfl
  unfold mem
  rw [h1, show Nat.beq 7 4 = false from rfl, cond_false, show (Nat.beq 7 8 && isDeed k [.ptr u 0, .agg (oddCells k)]) = false from rfl, cond_false, show (Nat.beq 7 7 && (true && true)) = true from rfl, cond_true]
set_option maxHeartbeats 4000000 in
set_option maxRecDepth 20000 in
theorem did_runs {k : Int} {B : Bool} {b p u : Nat} {x0 x1 : SV} (hb : h.objs.get b = some (.cells (oddCells k) 43)) (hp : h.objs.get p = some (.cells [x0, x1, .ptr u 0] 48)) (hu : undoerAt h u = true)
    (e5 : Fr.ev ⟨tm, 174, []⟩ (.tmp 5) = .ptr b 0) (e7 : Fr.ev ⟨tm, 174, []⟩ (.tmp 7) = .ptr p 0) (k2 : ∀ v5 v6, O.Runs Tryz.prog Γ0 (mem k B true) (.code c19 none ⟨t18 tm p u v5 v6, 174, []⟩ h) Φ) :
    O.Runs Tryz.prog Γ0 (mem k B true) (.code (condL (seqR c17)) none ⟨tm, 174, []⟩ h) Φ := by
  refine O.runs_seq (O.runs_region ?_)
  refine O.ops_q (v := .ptr p 2) (fs := []) rfl (by simp only [quiet, e7]; rfl) rfl rfl ?_
  refine O.ops_q (v := .ptr u 0) (fs := [.cells p 2 [.ptr u 0]]) rfl (by simp only [quiet, ev_set]; exact snap.load_cell rfl hp rfl) rfl rfl ?_
  refine O.ops_q (v := .agg (oddCells k)) (fs := [.cells b 0 (oddCells k)]) rfl (by simp only [quiet, ev_set, e5]; exact snap.load_cut rfl rfl hb rfl) rfl rfl ?_
  refine O.ops_c (f := 7) (args := [.ptr u 0, .agg (oddCells k)]) rfl rfl rfl (snap.clone_body Tryz.func7 rfl) rfl rfl ?_
  refine O.runs_told (mem_did k B hu) fun o ho => ?_
  obtain rfl := List.mem_singleton.1 ho
  exact O.ops_nil (thenN (k2 _ _))
set_option maxHeartbeats 4000000 in
set_option maxRecDepth 20000 in
theorem odd_runs {k : Int} {B C : Bool} {b p u : Nat} {x0 x1 : SV} (hC : k = 7 ∨ B = false → C = true) (hb : h.objs.get b = some (.cells (oddCells k) 43)) (hp : h.objs.get p = some (.cells [x0, x1, .ptr u 0] 48)) (hu : undoerAt h u = true)
    (e5 : Fr.ev ⟨tm, 174, []⟩ (.tmp 5) = .ptr b 0) (e7 : Fr.ev ⟨tm, 174, []⟩ (.tmp 7) = .ptr p 0) (k1 : ∀ v2 v3 v4 v5 v6 v7 v8 v9, next ⟨t17 tm b v2 v3 v4 v5 v6 v7 v8 v9, 174, []⟩ h)
    (k2 : C = true → ∀ v2 v3 v4 v5 v6 v7 v8 v9 w5 w6, O.Runs Tryz.prog Γ0 (mem k B C) (.code c19 none ⟨t18 (t17 tm b v2 v3 v4 v5 v6 v7 v8 v9) p u w5 w6, 174, []⟩ h) (O.Then next Φ)) :
    O.Runs Tryz.prog Γ0 (mem k B C) (.code c17 none ⟨tm, 174, []⟩ h) (O.Then next Φ) := by
  have f7 : ∀ v2 v3 v4 v5 v6 v7 v8 v9, Fr.ev ⟨t17 tm b v2 v3 v4 v5 v6 v7 v8 v9, 174, []⟩ (.tmp 5) = .ptr b 0 ∧ Fr.ev ⟨t17 tm b v2 v3 v4 v5 v6 v7 v8 v9, 174, []⟩ (.tmp 7) = .ptr p 0 := fun v2 v3 v4 v5 v6 v7 v8 v9 => by
    constructor
    · simp only [t17, ev_set]; exact e5
    · simp only [t17, ev_set]; exact e7
  have taken : C = true → ∀ v2 v3 v4 v5 v6 v7 v8 v9, O.Runs Tryz.prog Γ0 (mem k B C) (.code (condL (seqR c17)) none ⟨t17 tm b v2 v3 v4 v5 v6 v7 v8 v9, 174, []⟩ h) (O.Then next Φ) := fun hC v2 v3 v4 v5 v6 v7 v8 v9 => by
    have k2 := k2 hC
    subst hC
    exact did_runs hb hp hu (f7 v2 v3 v4 v5 v6 v7 v8 v9).1 (f7 v2 v3 v4 v5 v6 v7 v8 v9).2 fun w5 w6 => k2 v2 v3 v4 v5 v6 v7 v8 v9 w5 w6
  refine O.runs_seq (O.runs_region ?_)
  refine O.ops_q (v := .ptr b 0) (fs := []) rfl (by simp only [quiet, e5]; rfl) rfl rfl ?_
  refine O.ops_q (v := .ptr b 2) (fs := []) rfl (by simp only [quiet, ev_set]; rfl) rfl rfl ?_
  refine O.ops_q (v := .lit (.int .i64 k)) (fs := [.cells b 2 [.lit (.int .i64 k)]]) rfl (by simp only [quiet, ev_set]; exact snap.load_cell rfl hb rfl) rfl rfl ?_
  by_cases hk : k = 7
  · refine O.ops_q (v := .lit (.bool true)) (fs := []) rfl (by simp only [quiet, ev_set]; exact congrArg one (c3_eqlT hk)) rfl rfl ?_
    refine O.ops_q (v := .lit (.bool true)) (fs := []) rfl (by simp only [quiet, ev_set]; rfl) rfl rfl ?_
    refine O.ops_u rfl rfl rfl ?_
    refine O.ops_u rfl rfl rfl ?_
    refine O.ops_u rfl rfl rfl ?_
    refine O.ops_u rfl rfl rfl ?_
    refine O.ops_q (v := .lit (.bool true)) (fs := []) rfl (by simp only [quiet, ev_set]; rfl) rfl rfl ?_
    refine O.ops_nil (thenN ?_)
    refine O.runs_cond true (by simp [ev_set]) ?_
    exact taken (hC (.inl hk)) _ _ _ _ _ _ _ _
  · refine O.ops_q (v := .lit (.bool false)) (fs := []) rfl (by simp only [quiet, ev_set]; exact congrArg one (c3_eqlF hk)) rfl rfl ?_
    refine O.ops_q (v := .lit (.bool false)) (fs := []) rfl (by simp only [quiet, ev_set]; rfl) rfl rfl ?_
    refine O.ops_q (v := .ptr b 0) (fs := []) rfl (by simp only [quiet, ev_set, e5]; rfl) rfl rfl ?_
    refine O.ops_q (v := .agg (oddDeed k)) (fs := [.cells b 0 (oddDeed k)]) rfl (by simp only [quiet, ev_set]; exact snap.load_cut rfl rfl hb rfl) rfl rfl ?_
    refine O.ops_c (f := 8) (args := [.agg (oddDeed k)]) rfl rfl rfl (snap.clone_body Tryz.func8 rfl) rfl rfl ?_
    refine O.runs_told (mem_right k B C h) fun o ho => ?_
    obtain rfl := List.mem_singleton.1 ho
    cases B with
    | false =>
      refine O.ops_q (v := .lit (.bool true)) (fs := []) rfl (by simp only [quiet, ev_set]; rfl) rfl rfl ?_
      refine O.ops_q (v := .lit (.bool true)) (fs := []) rfl (by simp only [quiet, ev_set]; rfl) rfl rfl ?_
      refine O.ops_nil (thenN ?_)
      refine O.runs_cond true (by simp [ev_set]) ?_
      exact taken (hC (.inr rfl)) _ _ _ _ _ _ _ _
    | true =>
      refine O.ops_q (v := .lit (.bool false)) (fs := []) rfl (by simp only [quiet, ev_set]; rfl) rfl rfl ?_
      refine O.ops_q (v := .lit (.bool false)) (fs := []) rfl (by simp only [quiet, ev_set]; rfl) rfl rfl ?_
      refine O.ops_nil (thenN ?_)
      refine O.runs_cond false (by simp [ev_set]) ?_
      exact O.runs_skip (thenN (k1 _ _ _ _ _ _ _ _))
end
end Go.Proofs.YtcnfmcbmephdfaaGreatDoor.minePassed
