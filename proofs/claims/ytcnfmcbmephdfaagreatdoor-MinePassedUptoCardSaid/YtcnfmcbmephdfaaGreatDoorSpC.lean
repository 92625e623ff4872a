/-
  NUMBERS IN A ROW, SORTED: the word of this seat's oracle on 'slices.Sort' at []int; by the author of this claim. | STEPS THAT THE RUNS OF THIS CLAIM SHARE: code's pieces, numbers, cells, an operation with many ends, a round; by the author of this claim, in the calculus of runs.
-/
import Derived.Test.YtcnfmcbmephdfaaGreatDoorEvGF
import Derived.Test.YtcnfmcbmephdfaaGreatDoorEvGH
import Derived.Test.YtcnfmcbmephdfaaGreatDoorProg
import Derived.KernelRfl
namespace Go.Proofs.YtcnfmcbmephdfaaGreatDoor.snap
open Go Go.Proofs.YtcnfmcbmephdfaaGreatDoor.Ev
end Go.Proofs.YtcnfmcbmephdfaaGreatDoor.snap
namespace Go.Proofs.YtcnfmcbmephdfaaGreatDoor.snap
open Go Go.Proofs.YtcnfmcbmephdfaaGreatDoor.Ev
def seqL : Code → Code
  | .seq a _ => a
  | c => c
def seqR : Code → Code
  | .seq _ b => b
  | c => c
def inBlk : Code → Code
  | .block _ c => c
  | c => c
def inLoop : Code → Code
  | .loop c => c
  | c => c
def condL : Code → Code
  | .cond _ a _ => a
  | c => c
def condR : Code → Code
  | .cond _ _ b => b
  | c => c
def opsOf : Code → Array Oper
  | .region _ ops _ => ops
  | _ => #[]
def bodyOf (f : Func) : Code := match f.body with
  | some c => c
  | none => .skip
theorem wrap_in {z : Int} (h1 : -9223372036854775808 ≤ z) (h2 : z < 9223372036854775808) : IntKind.i64.wrap z = z := by
  have h64 : (2 : Int) ^ 64 = 18446744073709551616 := by decide
  have h63 : (2 : Int) ^ (64 - 1) = 9223372036854775808 := by decide
  simp only [IntKind.wrap, IntKind.signed, IntKind.bits, h64, h63]
  by_cases hz : 0 ≤ z
  · rw [Int.emod_eq_of_lt hz (by omega)]
    simp [show ¬ (z ≥ 9223372036854775808) by omega]
  · have e : z % 18446744073709551616 = z + 18446744073709551616 := by omega
    rw [e]
    simp [show z + 18446744073709551616 ≥ 9223372036854775808 by omega]
theorem load_cell {P : Program} {Γ : Glob} {h : Hp} {t : TypeId} {b k : Nat} {cs : List SV} {e : TypeId} {v : SV} (ht : tyAgg P t = some false) (hb : h.objs.get b = some (.cells cs e)) (hv : cs[k]? = some v) : loadQ P Γ h t (.ptr b k) = some (v, [.cells b k [v]]) := by
  have hcut : cut cs k 1 = some [v] := by
    have : (cs.drop k).take 1 = [v] := by rw [List.take_one, List.head?_drop, hv]; rfl
    simp only [cut, this]; rfl
  simp only [loadQ, ht, readCells, knownCells, hb, Option.bind_some, hcut]
theorem load_cut {P : Program} {Γ : Glob} {h : Hp} {t : TypeId} {b k n : Nat} {cs vs : List SV} {e : TypeId} (ht : tyAgg P t = some true) (hs : tySize P t = some n) (hb : h.objs.get b = some (.cells cs e)) (hv : cut cs k n = some vs) : loadQ P Γ h t (.ptr b k) = some (.agg vs, [.cells b k vs]) := by
  simp only [loadQ, ht, hs, readCells, knownCells, hb, Option.bind_some, hv]
section
variable {P : Program} {Γ : Glob} {ops : Array Oper} {o : Oper} {l : List Oper} {tm : T SV} {n d : Nat} {ms : List Nat} {hp : Hp} {Φ : Out → Prop}
theorem ops_yield {b : Nat} {args : List SV} (hw : wantedQ ops ⟨tm, n, ms⟩ o = some true) (hq : quiet P Γ hp (Fr.ev ⟨tm, n, ms⟩) o.op = none) (hc : calleeOf (Fr.ev ⟨tm, n, ms⟩) o.op = some (.round b args)) (hd : o.dst = some d) (hb : Nat.blt d n = true)
    (h : Runs P Γ (.round b args hp) fun r => RunsOps P Γ ops l ⟨tm.set d r.v, n, ms⟩ r.hp Φ) : RunsOps P Γ ops (o :: l) ⟨tm, n, ms⟩ hp Φ := by
  refine ops_cons (Ends.bind (g := fun _ (r : Out) => some [((⟨tm.set d r.v, n, ms⟩ : Fr), r.hp)]) h (fun r hr => Ends.one (fun _ => rfl) hr) fun k xs hxs => ?_)
  have hxs : runO P Γ theMem k (.round b args hp) = some xs := hxs
  simp only [oper, hw, hq, loud, hc, hxs, Option.map_some]
  rw [allOf_map]
  congr 1
  funext r
  rw [put_slot hd hb]
  rfl
theorem runs_round {b : Nat} {args : List SV} {x : ALoop} {fr : Fr} (hb : hp.objs.get b = some (.loop x)) (hl : Nat.beq args.length x.params.size = true) (hs : setAll (x.params.toList.zip args) ⟨x.tmps, x.sz, []⟩ = some fr)
    (h : Runs P Γ (.code x.assign (some b) fr hp) fun o => ∃ y, o.exit = .normal ∧ o.hp.objs.get b = some (.loop y) ∧ y.state = .ready ∧ Runs P Γ (.code x.body (some b) o.fr (o.hp.upd b (.loop { y with state := .busy }))) fun o2 => ∃ r, roundEnd b o2 = some [r] ∧ Φ r) :
    Runs P Γ (.round b args hp) Φ := by
  refine Runs.step (Ends.bind (g := fun k o => roundBody (runO P Γ theMem k) b x.body o) h (fun o ho => ?_) fun k xs hxs => ?_)
  · obtain ⟨y, h1, h2, h3, h4⟩ := ho
    refine Ends.bind (g := fun _ o2 => roundEnd b o2) h4 (fun o2 ⟨r, h5, h6⟩ => Ends.one (fun _ => h5) h6) fun k xs hxs => ?_
    have hxs : runO P Γ theMem k (.code x.body (some b) o.fr (o.hp.upd b (.loop { y with state := .busy }))) = some xs := hxs
    simp only [roundBody, h1, h2, h3, hxs]
  · have hxs : runO P Γ theMem k (.code x.assign (some b) fr hp) = some xs := hxs
    simp only [stepO, stepTask, hb, hl, cond_true, hs, hxs]
end
structure At (h : Hp) (b : Nat) (o : AObj) : Prop where
  lt : b < h.next
  get : h.objs.get b = some o
theorem At.kept {h H : Hp} {b : Nat} {o : AObj} (a : At h b o) (k : Kept h.next h H) : At H b o := ⟨Nat.lt_of_lt_of_le a.lt k.next, (k.old b a.lt).trans a.get⟩
theorem At.keptLo {h H : Hp} {b lo : Nat} {o : AObj} (a : At h b o) (k : Kept lo h H) (hb : b < lo) : At H b o := ⟨Nat.lt_of_lt_of_le a.lt k.next, (k.old b hb).trans a.get⟩
theorem _root_.Go.Proofs.YtcnfmcbmephdfaaGreatDoor.Ev.Kept.then {a b c : Hp} (h : Kept a.next a b) (h' : Kept b.next b c) : Kept a.next a c := h.trans (h'.less h.next)
section
variable {P : Program} {Γ : Glob} {ops : Array Oper} {o : Oper} {l : List Oper} {tm : T SV} {n d : Nat} {ms : List Nat} {hp : Hp} {Φ : Out → Prop}
theorem ops_box {e : TypeId} {x : Operand} {cs : List SV} (w1 : wantedQ ops ⟨tm, n, ms⟩ o = some true) (h1 : o.op = .box e x) (hx : (Fr.ev ⟨tm, n, ms⟩ x).cells = cs) (hd : o.dst = some d) (hn : Nat.blt d n = true)
    (k : ∀ H, At H hp.next (.cells cs e) → Kept hp.next hp H → H.next = hp.next + 1 → RunsOps P Γ ops l ⟨tm.set d (.ptr hp.next 0), n, ms⟩ H Φ) : RunsOps P Γ ops (o :: l) ⟨tm, n, ms⟩ hp Φ := by
  refine ops_e (v := .ptr hp.next 0) (hp' := ⟨hp.objs.set hp.next (.cells cs e), hp.next + 1⟩) w1 (by rw [h1]; rfl) (by rw [h1]; rfl) (by rw [h1, ← hx]; rfl) (Nat.le_succ _) hd hn ?_
  exact k _ ⟨Nat.lt_succ_self _, get_same⟩ ⟨Nat.le_succ _, fun b hb => get_ne (Nat.ne_of_lt hb)⟩ rfl
theorem ops_alloc {e : TypeId} {z : Value} (w1 : wantedQ ops ⟨tm, n, ms⟩ o = some true) (h1 : o.op = .alloc e) (hz : tyZero P e = some z) (hd : o.dst = some d) (hn : Nat.blt d n = true)
    (k : ∀ H, At H hp.next (.cells (SV.cells (.lit z)) e) → Kept hp.next hp H → H.next = hp.next + 1 → RunsOps P Γ ops l ⟨tm.set d (.ptr hp.next 0), n, ms⟩ H Φ) : RunsOps P Γ ops (o :: l) ⟨tm, n, ms⟩ hp Φ := by
  refine ops_e (v := .ptr hp.next 0) (hp' := ⟨hp.objs.set hp.next (.cells (SV.cells (.lit z)) e), hp.next + 1⟩) w1 (by rw [h1]; rfl) (by rw [h1]; rfl) (by rw [h1]; simp only [effect, hz, Option.map_some]; rfl) (Nat.le_succ _) hd hn ?_
  exact k _ ⟨Nat.lt_succ_self _, get_same⟩ ⟨Nat.le_succ _, fun b hb => get_ne (Nat.ne_of_lt hb)⟩ rfl
theorem ops_bsl {t e : TypeId} {k : Nat} {parts : Array (Nat × Operand)} {cs : List SV} (w1 : wantedQ ops ⟨tm, n, ms⟩ o = some true) (h1 : o.op = .buildSlice t k parts) (hb : buildSliceE P hp t k (parts.toList.map fun p => (p.1, Fr.ev ⟨tm, n, ms⟩ p.2)) = some (.slice hp.next 0 k k, ⟨hp.objs.set hp.next (.cells cs e), hp.next + 1⟩)) (hd : o.dst = some d) (hn : Nat.blt d n = true)
    (kk : ∀ H, At H hp.next (.cells cs e) → Kept hp.next hp H → H.next = hp.next + 1 → RunsOps P Γ ops l ⟨tm.set d (.slice hp.next 0 k k), n, ms⟩ H Φ) : RunsOps P Γ ops (o :: l) ⟨tm, n, ms⟩ hp Φ := by
  refine ops_e (v := .slice hp.next 0 k k) (hp' := ⟨hp.objs.set hp.next (.cells cs e), hp.next + 1⟩) w1 (by rw [h1]; rfl) (by rw [h1]; rfl) (by rw [h1]; exact congrArg Ev.val hb) (Nat.le_succ _) hd hn ?_
  exact kk _ ⟨Nat.lt_succ_self _, get_same⟩ ⟨Nat.le_succ _, fun b hb => get_ne (Nat.ne_of_lt hb)⟩ rfl
end
theorem clone_body {P : Program} {h : Hp} {f : FuncId} {args : List SV} {fn : Func} (hf : P.funcs[f]? = some fn) (hb : fn.body.isNone = false) : cloneE P h f args = none := by
  unfold cloneE
  split
  · rename_i fn' t b hfn
    rw [hf] at hfn
    obtain rfl := Option.some.inj hfn
    simp only [hb, Bool.false_and, cond_false]
  · rfl
theorem take_unwanted {P : Program} {Γ : Glob} {ops : Array Oper} {mask : Nat} {held : List Held} {fr fr2 : Fr} {hp : Hp} {o : Oper} {rest : List Oper} {i : Nat} {res : Option (Nat × List Held × Fr × Hp)} (hm : Nat.testBit mask i = false) (hd : Nat.beq (Nat.land (depsOf o) mask) (depsOf o) = true) (hw : wantedQ ops fr o = some false) (hput : fr.put o.dst (.lit undef) = some fr2)
    (h : takeAll P Γ ops rest (i + 1) (mask ||| 2 ^ i) held fr2 hp = res) : takeAll P Γ ops (o :: rest) i mask held fr hp = res := by
  rw [← h, takeAll, hm, cond_false, hd, cond_true, hw]
  simp only [hput]
theorem roundEnd_normal {B : Nat} {fr : Fr} {h : Hp} {x : ALoop} {v : SV} (hB : h.objs.get B = some (.loop x)) : roundEnd B ⟨.normal, fr, h, v⟩ = some [⟨.ret, fr, h.upd B (.loop { x with state := .ready, pending := none }), .lit (.bool true)⟩] := by
  simp only [roundEnd, endRoundE, hB]
  rfl
theorem _root_.Go.Proofs.YtcnfmcbmephdfaaGreatDoor.Ev.RowIs.less {h : Hp} {lo lo' bl : Nat} {e : TypeId} {n : Nat} {v : SV} {l : List (List SV)} (hr : RowIs h lo bl e n v l) (hl : lo' ≤ lo) : RowIs h lo' bl e n v l := by
  rcases hr with hr | ⟨r1, r2, r3, r4⟩
  · exact .inl hr
  · exact .inr ⟨r1, Nat.le_trans hl r2, r3, r4⟩
theorem leave_cell {P : Program} {Γ : Glob} {fn : Func} {tm : T SV} {n D t a : Nat} {ty e : TypeId} {h : Hp} {v v0 : SV} (hr : fn.results.toList = [.cell t ty]) (hD : h.objs.get D = some (.deferred true)) (he : Fr.ev ⟨tm, n, [D]⟩ (.tmp t) = .ptr a 0) (ht : tyAgg P ty = some false) (ha : a ≠ D) (hc : h.objs.get a = some (.cells [v] e)) : leave P Γ fn ⟨.ret, ⟨tm, n, [D]⟩, h, v0⟩ = some [⟨.ret, ⟨tm, n, [D]⟩, h.upd D (.deferred false), v⟩] := by
  have hl : loadQ P Γ (h.upd D (.deferred false)) ty (.ptr a 0) = some (v, [.cells a 0 [v]]) := load_cell ht ((get_ne ha).trans hc) rfl
  simp only [leave, shutMarks, hD, hr, resultsQ, he, hl]
theorem At.set {h : Hp} {b : Nat} {o o' : AObj} (a : At h b o) : At ⟨h.objs.set b o', h.next⟩ b o' := ⟨a.lt, get_same⟩
theorem fact_cells {h : Hp} {b off : Nat} {cs vs : List SV} {e : TypeId} (a : At h b (.cells cs e)) (hc : cut cs off vs.length = some vs) (hs : SV.sameL vs vs = true) : factHolds h (.cells b off vs) = true := by
  have hk : knownCells h b = some cs := by simp only [knownCells, a.get]
  simp only [factHolds, hk, Option.bind_some, hc, hs]
def Tells (h : Hp) (v : SV) (r : Out) : Prop := r.v = v ∧ Kept h.next h r.hp
end Go.Proofs.YtcnfmcbmephdfaaGreatDoor.snap
