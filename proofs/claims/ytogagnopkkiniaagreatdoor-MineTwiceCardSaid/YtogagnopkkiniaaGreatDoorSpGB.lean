/-
  NUMBERS IN A ROW, SORTED: the word of this seat's oracle on 'slices.Sort' at []int; by the author of this claim. | STEPS THAT THE RUNS OF THIS CLAIM SHARE: code's pieces, numbers, cells, an operation with many ends, a round; by the author of this claim, in the calculus of runs.
-/
import Derived.Test.YtogagnopkkiniaaGreatDoorEvGF
import Derived.Test.YtogagnopkkiniaaGreatDoorEvGH
import Derived.Test.YtogagnopkkiniaaGreatDoorEvGJ
import Derived.Test.YtogagnopkkiniaaGreatDoorProg
import Derived.KernelRfl
namespace Go.Proofs.YtogagnopkkiniaaGreatDoor.snap
open Go Go.Proofs.YtogagnopkkiniaaGreatDoor.Ev

def iv (n : Int) : SV := .lit (.int .i64 n)
def decI : List SV → List Int
  | .lit (.int _ z) :: r => z :: decI r
  | _ => []
theorem decI_iv : ∀ zs : List Int, decI (zs.map iv) = zs
  | [] => rfl
  | z :: zs => by
    show z :: decI (zs.map iv) = _
    rw [decI_iv zs]
open Classical in
/-- The word on a sort. -/
noncomputable def sortV (v : SV) (hp : Hp) : R := match v with
  | .lit (.slice none 0 0) => some [⟨.ret, ⟨.leaf, 0, []⟩, hp, .lit (.tuple #[])⟩]
  | .row b 0 n n' cv => match hp.objs.get b with
    | some (.row l e k cv' size) => if l = (decI l).map iv ∧ n' = n ∧ k = n ∧ cv' = cv ∧ e = 3 ∧ size = 1 ∧ (decI l).length = n ∧ n ≤ 1000000 then some [⟨.ret, ⟨.leaf, 0, []⟩, hp.upd b (.row (((decI l).mergeSort fun x y => decide (x ≤ y)).map iv) e k cv' size), .lit (.tuple #[])⟩] else none
    | _ => none
  | _ => none
noncomputable def sortW (args : List SV) (hp : Hp) : R := match args with
  | [v] => sortV v hp
  | _ => none
theorem sortW_row {hp : Hp} {b : Nat} {zs : List Int} (hn : zs.length ≤ 1000000) (hb : hp.objs.get b = some (.row (zs.map iv) 3 zs.length b 1)) :
    sortW [.row b 0 zs.length zs.length b] hp = some [⟨.ret, ⟨.leaf, 0, []⟩, hp.upd b (.row ((zs.mergeSort fun x y => decide (x ≤ y)).map iv) 3 zs.length b 1), .lit (.tuple #[])⟩] := by
  show sortV (.row b 0 zs.length zs.length b) hp = _
  simp only [sortV, hb, decI_iv, true_and, hn, if_true]
end Go.Proofs.YtogagnopkkiniaaGreatDoor.snap
namespace Go.Proofs.YtogagnopkkiniaaGreatDoor.snap
open Go Go.Proofs.YtogagnopkkiniaaGreatDoor.Ev

def seqL : Code → Code
  | .seq a _ => a
  | c => c
def seqR : Code → Code
  | .seq _ b => b
  | c => c
def inBlk : Code → Code
  | .block _ c => c
  | c => c
def inLoop : Code → Code
  | .loop c => c
  | c => c
def condL : Code → Code
  | .cond _ a _ => a
  | c => c
def condR : Code → Code
  | .cond _ _ b => b
  | c => c
def opsOf : Code → Array Oper
  | .region _ ops _ => ops
  | _ => #[]
def bodyOf (f : Func) : Code := match f.body with
  | some c => c
  | none => .skip



theorem lssT {x y : Operand} {a b : Int} (h : a < b) : binQ Tryz.prog .lss 3 x y (.lit (.int .i64 a)) (.lit (.int .i64 b)) = some (.lit (.bool true)) := by
  show some (SV.lit (.bool (decide (a < b)))) = _
  rw [decide_eq_true h]
theorem lssF {x y : Operand} {a b : Int} (h : ¬ a < b) : binQ Tryz.prog .lss 3 x y (.lit (.int .i64 a)) (.lit (.int .i64 b)) = some (.lit (.bool false)) := by
  show some (SV.lit (.bool (decide (a < b)))) = _
  rw [decide_eq_false h]
theorem leqT {x y : Operand} {a b : Int} (h : a ≤ b) : binQ Tryz.prog .leq 3 x y (.lit (.int .i64 a)) (.lit (.int .i64 b)) = some (.lit (.bool true)) := by
  show some (SV.lit (.bool (decide (a ≤ b)))) = _
  rw [decide_eq_true h]
theorem leqF {x y : Operand} {a b : Int} (h : ¬ a ≤ b) : binQ Tryz.prog .leq 3 x y (.lit (.int .i64 a)) (.lit (.int .i64 b)) = some (.lit (.bool false)) := by
  show some (SV.lit (.bool (decide (a ≤ b)))) = _
  rw [decide_eq_false h]
theorem gtrT {x y : Operand} {a b : Int} (h : b < a) : binQ Tryz.prog .gtr 3 x y (.lit (.int .i64 a)) (.lit (.int .i64 b)) = some (.lit (.bool true)) := by
  show some (SV.lit (.bool (decide (a > b)))) = _
  rw [decide_eq_true h]
theorem gtrF {x y : Operand} {a b : Int} (h : ¬ b < a) : binQ Tryz.prog .gtr 3 x y (.lit (.int .i64 a)) (.lit (.int .i64 b)) = some (.lit (.bool false)) := by
  show some (SV.lit (.bool (decide (a > b)))) = _
  rw [decide_eq_false h]
theorem eqlT {x y : Operand} {a b : Int} (h : a = b) : binQ Tryz.prog .eql 3 x y (.lit (.int .i64 a)) (.lit (.int .i64 b)) = some (.lit (.bool true)) := by
  show some (SV.lit (.bool (a == b))) = _
  rw [beq_iff_eq.2 h]
theorem eqlF {x y : Operand} {a b : Int} (h : a ≠ b) : binQ Tryz.prog .eql 3 x y (.lit (.int .i64 a)) (.lit (.int .i64 b)) = some (.lit (.bool false)) := by
  show some (SV.lit (.bool (a == b))) = _
  rw [beq_eq_false_iff_ne.2 h]
theorem neqT {x y : Operand} {a b : Int} (h : a ≠ b) : binQ Tryz.prog .neq 3 x y (.lit (.int .i64 a)) (.lit (.int .i64 b)) = some (.lit (.bool true)) := by
  show some (SV.lit (.bool (!(a == b)))) = _
  rw [beq_eq_false_iff_ne.2 h]; rfl
theorem neqF {x y : Operand} {a b : Int} (h : a = b) : binQ Tryz.prog .neq 3 x y (.lit (.int .i64 a)) (.lit (.int .i64 b)) = some (.lit (.bool false)) := by
  show some (SV.lit (.bool (!(a == b)))) = _
  rw [beq_iff_eq.2 h]; rfl
theorem wrap_in {z : Int} (h1 : -9223372036854775808 ≤ z) (h2 : z < 9223372036854775808) : IntKind.i64.wrap z = z := by
  have h64 : (2 : Int) ^ 64 = 18446744073709551616 := by decide
  have h63 : (2 : Int) ^ (64 - 1) = 9223372036854775808 := by decide
  simp only [IntKind.wrap, IntKind.signed, IntKind.bits, h64, h63]
  by_cases hz : 0 ≤ z
  · rw [Int.emod_eq_of_lt hz (by omega)]
    simp [show ¬ (z ≥ 9223372036854775808) by omega]
  · have e : z % 18446744073709551616 = z + 18446744073709551616 := by omega
    rw [e]
    simp [show z + 18446744073709551616 ≥ 9223372036854775808 by omega]
theorem geqT {x y : Operand} {a b : Int} (h : b ≤ a) : binQ Tryz.prog .geq 3 x y (.lit (.int .i64 a)) (.lit (.int .i64 b)) = some (.lit (.bool true)) := by
  show some (SV.lit (.bool (decide (a ≥ b)))) = _
  rw [decide_eq_true h]
theorem geqF {x y : Operand} {a b : Int} (h : ¬ b ≤ a) : binQ Tryz.prog .geq 3 x y (.lit (.int .i64 a)) (.lit (.int .i64 b)) = some (.lit (.bool false)) := by
  show some (SV.lit (.bool (decide (a ≥ b)))) = _
  rw [decide_eq_false h]
theorem addQ {x y : Operand} {a b c : Int} (h : a + b = c) (h1 : -9223372036854775808 ≤ c) (h2 : c < 9223372036854775808) : binQ Tryz.prog .add 3 x y (.lit (.int .i64 a)) (.lit (.int .i64 b)) = some (.lit (.int .i64 c)) := by
  show some (SV.lit (.int .i64 (IntKind.i64.wrap (a + b)))) = _
  rw [h, wrap_in h1 h2]

def rngA : Code → Code
  | .rangeFunc _ _ a _ => a
  | c => c
def rngB : Code → Code
  | .rangeFunc _ _ _ b => b
  | c => c
theorem load_cell {P : Program} {Γ : Glob} {h : Hp} {t : TypeId} {b k : Nat} {cs : List SV} {e : TypeId} {v : SV} (ht : tyAgg P t = some false) (hb : h.objs.get b = some (.cells cs e)) (hv : cs[k]? = some v) : loadQ P Γ h t (.ptr b k) = some (v, [.cells b k [v]]) := by
  have hcut : cut cs k 1 = some [v] := by
    have : (cs.drop k).take 1 = [v] := by rw [List.take_one, List.head?_drop, hv]; rfl
    simp only [cut, this]; rfl
  simp only [loadQ, ht, readCells, knownCells, hb, Option.bind_some, hcut]
theorem load_cut {P : Program} {Γ : Glob} {h : Hp} {t : TypeId} {b k n : Nat} {cs vs : List SV} {e : TypeId} (ht : tyAgg P t = some true) (hs : tySize P t = some n) (hb : h.objs.get b = some (.cells cs e)) (hv : cut cs k n = some vs) : loadQ P Γ h t (.ptr b k) = some (.agg vs, [.cells b k vs]) := by
  simp only [loadQ, ht, hs, readCells, knownCells, hb, Option.bind_some, hv]
theorem load_row {P : Program} {Γ : Glob} {h : Hp} {t : TypeId} {b k n c cv z : Nat} {cs vs : List SV} {e : TypeId} (ht : tyAgg P t = some true) (hs : tySize P t = some n) (hb : h.objs.get b = some (.row cs e c cv z)) (hv : cut cs k n = some vs) : loadQ P Γ h t (.ptr b k) = some (.agg vs, [.cells b k vs]) := by
  simp only [loadQ, ht, hs, readCells, knownCells, hb, Option.bind_some, hv]


section
variable {P : Program} {Γ : Glob} {ops : Array Oper} {o : Oper} {l : List Oper} {tm : T SV} {n d : Nat} {ms : List Nat} {hp : Hp} {Φ : Out → Prop}
/-- One that may come to many things. -/
theorem ops_many {outs : List (SV × Hp)} (hw : wantedQ ops ⟨tm, n, ms⟩ o = some true) (hq : quiet P Γ hp (Fr.ev ⟨tm, n, ms⟩) o.op = none) (hc : calleeOf (Fr.ev ⟨tm, n, ms⟩) o.op = none) (he : effect P Γ hp (Fr.ev ⟨tm, n, ms⟩) o.op = some outs) (hn : ∀ r ∈ outs, hp.next ≤ r.2.next) (hd : o.dst = some d) (hb : Nat.blt d n = true)
    (h : ∀ r ∈ outs, RunsOps P Γ ops l ⟨tm.set d r.1, n, ms⟩ r.2 Φ) : RunsOps P Γ ops (o :: l) ⟨tm, n, ms⟩ hp Φ := by
  refine ops_cons (Ends.bind (g := fun _ (r : SV × Hp) => some [((⟨tm.set d r.1, n, ms⟩ : Fr), r.2)]) (Φ := fun r => r ∈ outs) ⟨0, outs, fun _ _ => rfl, fun _ h => h⟩ (fun r hr => Ends.one (fun _ => rfl) (h r hr)) fun k xs hxs => ?_)
  obtain rfl := Option.some.inj hxs
  have hall : outs.all (fun r => Nat.ble hp.next r.2.next) = true := List.all_eq_true.2 fun r hr => Nat.ble_eq_true_of_le (hn r hr)
  simp only [oper, hw, hq, loud, hc, he, hall, cond_true]
  congr 1
  funext r
  rw [put_slot hd hb]
  rfl
/-- A call of yield. -/
theorem ops_yield {b : Nat} {args : List SV} (hw : wantedQ ops ⟨tm, n, ms⟩ o = some true) (hq : quiet P Γ hp (Fr.ev ⟨tm, n, ms⟩) o.op = none) (hc : calleeOf (Fr.ev ⟨tm, n, ms⟩) o.op = some (.round b args)) (hd : o.dst = some d) (hb : Nat.blt d n = true)
    (h : Runs P Γ (.round b args hp) fun r => RunsOps P Γ ops l ⟨tm.set d r.v, n, ms⟩ r.hp Φ) : RunsOps P Γ ops (o :: l) ⟨tm, n, ms⟩ hp Φ := by
  refine ops_cons (Ends.bind (g := fun _ (r : Out) => some [((⟨tm.set d r.v, n, ms⟩ : Fr), r.hp)]) h (fun r hr => Ends.one (fun _ => rfl) hr) fun k xs hxs => ?_)
  have hxs : runO P Γ theMem k (.round b args hp) = some xs := hxs
  simp only [oper, hw, hq, loud, hc, hxs, Option.map_some]
  rw [allOf_map]
  congr 1
  funext r
  rw [put_slot hd hb]
  rfl
/-- A round: its variables are given, and its body is run. -/
theorem runs_round {b : Nat} {args : List SV} {x : ALoop} {fr : Fr} (hb : hp.objs.get b = some (.loop x)) (hl : Nat.beq args.length x.params.size = true) (hs : setAll (x.params.toList.zip args) ⟨x.tmps, x.sz, []⟩ = some fr)
    (h : Runs P Γ (.code x.assign (some b) fr hp) fun o => ∃ y, o.exit = .normal ∧ o.hp.objs.get b = some (.loop y) ∧ y.state = .ready ∧ Runs P Γ (.code x.body (some b) o.fr (o.hp.upd b (.loop { y with state := .busy }))) fun o2 => ∃ r, roundEnd b o2 = some [r] ∧ Φ r) :
    Runs P Γ (.round b args hp) Φ := by
  refine Runs.step (Ends.bind (g := fun k o => roundBody (runO P Γ theMem k) b x.body o) h (fun o ho => ?_) fun k xs hxs => ?_)
  · obtain ⟨y, h1, h2, h3, h4⟩ := ho
    refine Ends.bind (g := fun _ o2 => roundEnd b o2) h4 (fun o2 ⟨r, h5, h6⟩ => Ends.one (fun _ => h5) h6) fun k xs hxs => ?_
    have hxs : runO P Γ theMem k (.code x.body (some b) o.fr (o.hp.upd b (.loop { y with state := .busy }))) = some xs := hxs
    simp only [roundBody, h1, h2, h3, hxs]
  · have hxs : runO P Γ theMem k (.code x.assign (some b) fr hp) = some xs := hxs
    simp only [stepO, stepTask, hb, hl, cond_true, hs, hxs]
end

/-! ### what stays -/
/-- A block holds this. -/
structure At (h : Hp) (b : Nat) (o : AObj) : Prop where
  lt : b < h.next
  get : h.objs.get b = some o
theorem At.kept {h H : Hp} {b : Nat} {o : AObj} (a : At h b o) (k : Kept h.next h H) : At H b o := ⟨Nat.lt_of_lt_of_le a.lt k.next, (k.old b a.lt).trans a.get⟩
theorem At.keptLo {h H : Hp} {b lo : Nat} {o : AObj} (a : At h b o) (k : Kept lo h H) (hb : b < lo) : At H b o := ⟨Nat.lt_of_lt_of_le a.lt k.next, (k.old b hb).trans a.get⟩
theorem _root_.Go.Proofs.YtogagnopkkiniaaGreatDoor.Ev.Kept.then {a b c : Hp} (h : Kept a.next a b) (h' : Kept b.next b c) : Kept a.next a c := h.trans (h'.less h.next)
theorem kept_new {h H : Hp} (j : ∀ b, b ≠ h.next → H.objs.get b = h.objs.get b) (n : H.next = h.next + 1) : Kept h.next h H := ⟨by omega, fun b hb => j b (Nat.ne_of_lt hb)⟩
theorem at_new {h H : Hp} {o : AObj} (g : H.objs.get h.next = some o) (n : H.next = h.next + 1) : At H h.next o := ⟨by omega, g⟩
section
variable {P : Program} {Γ : Glob} {ops : Array Oper} {o : Oper} {l : List Oper} {tm : T SV} {n d : Nat} {ms : List Nat} {hp : Hp} {Φ : Out → Prop}
/-- A new block for a value. -/
theorem ops_box {e : TypeId} {x : Operand} {cs : List SV} (w1 : wantedQ ops ⟨tm, n, ms⟩ o = some true) (h1 : o.op = .box e x) (hx : (Fr.ev ⟨tm, n, ms⟩ x).cells = cs) (hd : o.dst = some d) (hn : Nat.blt d n = true)
    (k : ∀ H, At H hp.next (.cells cs e) → Kept hp.next hp H → H.next = hp.next + 1 → RunsOps P Γ ops l ⟨tm.set d (.ptr hp.next 0), n, ms⟩ H Φ) : RunsOps P Γ ops (o :: l) ⟨tm, n, ms⟩ hp Φ := by
  refine ops_e (v := .ptr hp.next 0) (hp' := ⟨hp.objs.set hp.next (.cells cs e), hp.next + 1⟩) w1 (by rw [h1]; rfl) (by rw [h1]; rfl) (by rw [h1, ← hx]; rfl) (Nat.le_succ _) hd hn ?_
  exact k _ ⟨Nat.lt_succ_self _, get_same⟩ ⟨Nat.le_succ _, fun b hb => get_ne (Nat.ne_of_lt hb)⟩ rfl
/-- A new block of zeros. -/
theorem ops_alloc {e : TypeId} {z : Value} (w1 : wantedQ ops ⟨tm, n, ms⟩ o = some true) (h1 : o.op = .alloc e) (hz : tyZero P e = some z) (hd : o.dst = some d) (hn : Nat.blt d n = true)
    (k : ∀ H, At H hp.next (.cells (SV.cells (.lit z)) e) → Kept hp.next hp H → H.next = hp.next + 1 → RunsOps P Γ ops l ⟨tm.set d (.ptr hp.next 0), n, ms⟩ H Φ) : RunsOps P Γ ops (o :: l) ⟨tm, n, ms⟩ hp Φ := by
  refine ops_e (v := .ptr hp.next 0) (hp' := ⟨hp.objs.set hp.next (.cells (SV.cells (.lit z)) e), hp.next + 1⟩) w1 (by rw [h1]; rfl) (by rw [h1]; rfl) (by rw [h1]; simp only [effect, hz, Option.map_some]; rfl) (Nat.le_succ _) hd hn ?_
  exact k _ ⟨Nat.lt_succ_self _, get_same⟩ ⟨Nat.le_succ _, fun b hb => get_ne (Nat.ne_of_lt hb)⟩ rfl
/-- A new block, and what is put there. -/
theorem ops_newA {o2 : Oper} {e : TypeId} {z : Value} {cs : List SV} {m : Nat} {x : Operand} (w1 : wantedQ ops ⟨tm, n, ms⟩ o = some true) (h1 : o.op = .alloc e) (hz : tyZero P e = some z) (hd : o.dst = some d) (hn : Nat.blt d n = true)
    (w2 : wantedQ ops ⟨tm.set d (.ptr hp.next 0), n, ms⟩ o2 = some true) (h2 : o2.op = .store e (.tmp d) x) (p2 : o2.dst = none) (hx : (Fr.ev ⟨tm.set d (.ptr hp.next 0), n, ms⟩ x).cells = cs) (hs : tySize P e = some m) (hzl : (SV.cells (.lit z)).length = m) (hl : cs.length = m) (hone : cs.all SV.one = true)
    (k : ∀ H, At H hp.next (.cells cs e) → Kept hp.next hp H → H.next = hp.next + 1 → RunsOps P Γ ops l ⟨tm.set d (.ptr hp.next 0), n, ms⟩ H Φ) : RunsOps P Γ ops (o :: o2 :: l) ⟨tm, n, ms⟩ hp Φ := by
  refine ops_e (v := .ptr hp.next 0) (hp' := ⟨hp.objs.set hp.next (.cells (SV.cells (.lit z)) e), hp.next + 1⟩) w1 (by rw [h1]; rfl) (by rw [h1]; rfl) (by rw [h1]; simp only [effect, hz, Option.map_some]; rfl) (Nat.le_succ _) hd hn ?_
  refine ops_e0 (v := .lit undef) (hp' := ⟨(hp.objs.set hp.next (.cells (SV.cells (.lit z)) e)).set hp.next (.cells cs e), hp.next + 1⟩) w2 (by rw [h2]; rfl) (by rw [h2]; rfl) ?_ (Nat.le_refl _) p2 ?_
  · rw [h2]
    exact store_eff hs (by rw [ev_set, if_pos rfl]) rfl (by rw [hx]; exact hl) (by show (hp.objs.set _ _).get _ = _; rw [T.get_set, if_pos rfl]) (by rw [hx]; exact splice_whole (by rw [hzl]; exact hl.symm) hone)
  · exact k _ ⟨Nat.lt_succ_self _, get_same⟩ ⟨Nat.le_succ _, fun b hb => (get_ne (Nat.ne_of_lt hb)).trans (get_ne (Nat.ne_of_lt hb))⟩ rfl
/-- A slice literal. -/
theorem ops_bsl {t e : TypeId} {k : Nat} {parts : Array (Nat × Operand)} {cs : List SV} (w1 : wantedQ ops ⟨tm, n, ms⟩ o = some true) (h1 : o.op = .buildSlice t k parts) (hb : buildSliceE P hp t k (parts.toList.map fun p => (p.1, Fr.ev ⟨tm, n, ms⟩ p.2)) = some (.slice hp.next 0 k k, ⟨hp.objs.set hp.next (.cells cs e), hp.next + 1⟩)) (hd : o.dst = some d) (hn : Nat.blt d n = true)
    (kk : ∀ H, At H hp.next (.cells cs e) → Kept hp.next hp H → H.next = hp.next + 1 → RunsOps P Γ ops l ⟨tm.set d (.slice hp.next 0 k k), n, ms⟩ H Φ) : RunsOps P Γ ops (o :: l) ⟨tm, n, ms⟩ hp Φ := by
  refine ops_e (v := .slice hp.next 0 k k) (hp' := ⟨hp.objs.set hp.next (.cells cs e), hp.next + 1⟩) w1 (by rw [h1]; rfl) (by rw [h1]; rfl) (by rw [h1]; exact congrArg Ev.val hb) (Nat.le_succ _) hd hn ?_
  exact kk _ ⟨Nat.lt_succ_self _, get_same⟩ ⟨Nat.le_succ _, fun b hb => get_ne (Nat.ne_of_lt hb)⟩ rfl
/-- A new map. -/
theorem ops_mkmap {t kt et : TypeId} (w1 : wantedQ ops ⟨tm, n, ms⟩ o = some true) (h1 : o.op = .makeMap t none) (ht : tyU P t = some (.map kt et)) (hd : o.dst = some d) (hn : Nat.blt d n = true)
    (k : ∀ H, At H hp.next (.map [] 0) → Kept hp.next hp H → H.next = hp.next + 1 → RunsOps P Γ ops l ⟨tm.set d (.map hp.next), n, ms⟩ H Φ) : RunsOps P Γ ops (o :: l) ⟨tm, n, ms⟩ hp Φ := by
  refine ops_e (v := .map hp.next) (hp' := ⟨hp.objs.set hp.next (.map [] 0), hp.next + 1⟩) w1 (by rw [h1]; rfl) (by rw [h1]; rfl) (by rw [h1]; simp only [effect, ht]; rfl) (Nat.le_succ _) hd hn ?_
  exact k _ ⟨Nat.lt_succ_self _, get_same⟩ ⟨Nat.le_succ _, fun b hb => get_ne (Nat.ne_of_lt hb)⟩ rfl
/-- A copy of a map. -/
theorem ops_clone {f : FuncId} {args : List SV} {v : SV} {hp' : Hp} (hw : wantedQ ops ⟨tm, n, ms⟩ o = some true) (hq : quiet P Γ hp (Fr.ev ⟨tm, n, ms⟩) o.op = none) (hc : calleeOf (Fr.ev ⟨tm, n, ms⟩) o.op = some (.fn f args)) (hcl : cloneE P hp f args = some (v, hp')) (hd : o.dst = some d) (hn : Nat.blt d n = true)
    (h : RunsOps P Γ ops l ⟨tm.set d v, n, ms⟩ hp' Φ) : RunsOps P Γ ops (o :: l) ⟨tm, n, ms⟩ hp Φ :=
  ops_cons (Ends.one (x := (⟨tm.set d v, n, ms⟩, hp')) (fun k => by
    simp only [oper, hw, hq, loud, hc, hcl, allOf, put_slot hd hn, Option.map_some]
    rfl) h)
end
theorem clone_two {P : Program} {h : Hp} {f : FuncId} {a b : SV} : cloneE P h f [a, b] = none := by
  unfold cloneE
  split
  · rename_i hh
    simp at hh
  · rfl
theorem clone_body {P : Program} {h : Hp} {f : FuncId} {args : List SV} {fn : Func} (hf : P.funcs[f]? = some fn) (hb : fn.body.isNone = false) : cloneE P h f args = none := by
  unfold cloneE
  split
  · rename_i fn' t b hfn
    rw [hf] at hfn
    obtain rfl := Option.some.inj hfn
    simp only [hb, Bool.false_and, cond_false]
  · rfl
theorem take_unwanted {P : Program} {Γ : Glob} {ops : Array Oper} {mask : Nat} {held : List Held} {fr fr2 : Fr} {hp : Hp} {o : Oper} {rest : List Oper} {i : Nat} {res : Option (Nat × List Held × Fr × Hp)} (hm : Nat.testBit mask i = false) (hd : Nat.beq (Nat.land (depsOf o) mask) (depsOf o) = true) (hw : wantedQ ops fr o = some false) (hput : fr.put o.dst (.lit undef) = some fr2)
    (h : takeAll P Γ ops rest (i + 1) (mask ||| 2 ^ i) held fr2 hp = res) : takeAll P Γ ops (o :: rest) i mask held fr hp = res := by
  rw [← h, takeAll, hm, cond_false, hd, cond_true, hw]
  simp only [hput]
theorem roundEnd_normal {B : Nat} {fr : Fr} {h : Hp} {x : ALoop} {v : SV} (hB : h.objs.get B = some (.loop x)) : roundEnd B ⟨.normal, fr, h, v⟩ = some [⟨.ret, fr, h.upd B (.loop { x with state := .ready, pending := none }), .lit (.bool true)⟩] := by
  simp only [roundEnd, endRoundE, hB]
  rfl
theorem leave_marked {P : Program} {Γ : Glob} {fn : Func} {tm : T SV} {n D t : Nat} {h : Hp} {v v0 : SV} (hr : fn.results.toList = [.tmp t]) (hD : h.objs.get D = some (.deferred true)) (he : Fr.ev ⟨tm, n, [D]⟩ (.tmp t) = v) : leave P Γ fn ⟨.ret, ⟨tm, n, [D]⟩, h, v0⟩ = some [⟨.ret, ⟨tm, n, [D]⟩, h.upd D (.deferred false), v⟩] := by
  simp only [leave, shutMarks, hD, hr, resultsQ, Option.map_some, he]
theorem _root_.Go.Proofs.YtogagnopkkiniaaGreatDoor.Ev.RowIs.less {h : Hp} {lo lo' bl : Nat} {e : TypeId} {n : Nat} {v : SV} {l : List (List SV)} (hr : RowIs h lo bl e n v l) (hl : lo' ≤ lo) : RowIs h lo' bl e n v l := by
  rcases hr with hr | ⟨r1, r2, r3, r4⟩
  · exact .inl hr
  · exact .inr ⟨r1, Nat.le_trans hl r2, r3, r4⟩
theorem leave_cell {P : Program} {Γ : Glob} {fn : Func} {tm : T SV} {n D t a : Nat} {ty e : TypeId} {h : Hp} {v v0 : SV} (hr : fn.results.toList = [.cell t ty]) (hD : h.objs.get D = some (.deferred true)) (he : Fr.ev ⟨tm, n, [D]⟩ (.tmp t) = .ptr a 0) (ht : tyAgg P ty = some false) (ha : a ≠ D) (hc : h.objs.get a = some (.cells [v] e)) : leave P Γ fn ⟨.ret, ⟨tm, n, [D]⟩, h, v0⟩ = some [⟨.ret, ⟨tm, n, [D]⟩, h.upd D (.deferred false), v⟩] := by
  have hl : loadQ P Γ (h.upd D (.deferred false)) ty (.ptr a 0) = some (v, [.cells a 0 [v]]) := load_cell ht ((get_ne ha).trans hc) rfl
  simp only [leave, shutMarks, hD, hr, resultsQ, he, hl]
theorem At.set {h : Hp} {b : Nat} {o o' : AObj} (a : At h b o) : At ⟨h.objs.set b o', h.next⟩ b o' := ⟨a.lt, get_same⟩
theorem At.setNe {h : Hp} {b c : Nat} {o o' : AObj} (a : At h b o) (hne : b ≠ c) : At ⟨h.objs.set c o', h.next⟩ b o := ⟨a.lt, (get_ne hne).trans a.get⟩
theorem slots2 {a b : Nat} {f g : Fr} (h1 : f.ev (.tmp a) = g.ev (.tmp a)) (h2 : f.ev (.tmp b) = g.ev (.tmp b)) : ∀ t ∈ [a, b], f.ev (.tmp t) = g.ev (.tmp t) := fun t ht => by
  simp only [List.mem_cons, List.not_mem_nil, or_false] at ht
  rcases ht with rfl | rfl <;> assumption
theorem slots3 {a b c : Nat} {f g : Fr} (h1 : f.ev (.tmp a) = g.ev (.tmp a)) (h2 : f.ev (.tmp b) = g.ev (.tmp b)) (h3 : f.ev (.tmp c) = g.ev (.tmp c)) : ∀ t ∈ [a, b, c], f.ev (.tmp t) = g.ev (.tmp t) := fun t ht => by
  simp only [List.mem_cons, List.not_mem_nil, or_false] at ht
  rcases ht with rfl | rfl | rfl <;> assumption
theorem slots4 {a b c d : Nat} {f g : Fr} (h1 : f.ev (.tmp a) = g.ev (.tmp a)) (h2 : f.ev (.tmp b) = g.ev (.tmp b)) (h3 : f.ev (.tmp c) = g.ev (.tmp c)) (h4 : f.ev (.tmp d) = g.ev (.tmp d)) : ∀ t ∈ [a, b, c, d], f.ev (.tmp t) = g.ev (.tmp t) := fun t ht => by
  simp only [List.mem_cons, List.not_mem_nil, or_false] at ht
  rcases ht with rfl | rfl | rfl | rfl <;> assumption
theorem slots5 {a b c d e : Nat} {f g : Fr} (h1 : f.ev (.tmp a) = g.ev (.tmp a)) (h2 : f.ev (.tmp b) = g.ev (.tmp b)) (h3 : f.ev (.tmp c) = g.ev (.tmp c)) (h4 : f.ev (.tmp d) = g.ev (.tmp d)) (h5 : f.ev (.tmp e) = g.ev (.tmp e)) : ∀ t ∈ [a, b, c, d, e], f.ev (.tmp t) = g.ev (.tmp t) := fun t ht => by
  simp only [List.mem_cons, List.not_mem_nil, or_false] at ht
  rcases ht with rfl | rfl | rfl | rfl | rfl <;> assumption
theorem slots6 {a b c d e i : Nat} {f g : Fr} (h1 : f.ev (.tmp a) = g.ev (.tmp a)) (h2 : f.ev (.tmp b) = g.ev (.tmp b)) (h3 : f.ev (.tmp c) = g.ev (.tmp c)) (h4 : f.ev (.tmp d) = g.ev (.tmp d)) (h5 : f.ev (.tmp e) = g.ev (.tmp e)) (h6 : f.ev (.tmp i) = g.ev (.tmp i)) : ∀ t ∈ [a, b, c, d, e, i], f.ev (.tmp t) = g.ev (.tmp t) := fun t ht => by
  simp only [List.mem_cons, List.not_mem_nil, or_false] at ht
  rcases ht with rfl | rfl | rfl | rfl | rfl | rfl <;> assumption
theorem fact_cells {h : Hp} {b off : Nat} {cs vs : List SV} {e : TypeId} (a : At h b (.cells cs e)) (hc : cut cs off vs.length = some vs) (hs : SV.sameL vs vs = true) : factHolds h (.cells b off vs) = true := by
  have hk : knownCells h b = some cs := by simp only [knownCells, a.get]
  simp only [factHolds, hk, Option.bind_some, hc, hs]
/-- A call's end that leaves what there was. -/
def Tells (h : Hp) (v : SV) (r : Out) : Prop := r.v = v ∧ Kept h.next h r.hp
end Go.Proofs.YtogagnopkkiniaaGreatDoor.snap
