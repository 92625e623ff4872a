/-
  STEPS FOR PRINTED RUNS: the ends of sequences and blocks, a function's end, texts as lists of bytes; by the author of this claim, in the calculus of runs. | MORE STEPS FOR PRINTED RUNS: slices of bytes in cells; by the author of this claim. | POINTERS OF WHICH IT IS NOT KNOWN WHETHER THEY CAME IN, in printed runs: what is read through them, and regions that draw; by the author of this claim. | LISTS THAT A RUN MAKES: nil, a slice of its own with room behind, or a row of its own; what is told of them, read, cut and put behind; by the author of this claim. | LISTS OF LEAN'S VALUES IN MEMORY, and an append to one as a step; by the author of this claim. | SLICES BUILT AND APPENDS IN REGIONS THAT DRAW, for printed runs; by the author of this claim.
-/
import Derived.Test.YtcnfmcbmephdfaaGreatDoorSpC
namespace Go.Proofs.YtcnfmcbmephdfaaGreatDoor.d
open Go Go.Proofs.YtcnfmcbmephdfaaGreatDoor.Ev Go.Proofs.YtcnfmcbmephdfaaGreatDoor.snap
abbrev iV (z : Int) : SV := .lit (.int .i64 z)
abbrev yV (z : Int) : SV := .lit (.int .u8 z)
abbrev bV (b : Bool) : SV := .lit (.bool b)
abbrev sV (l : List UInt8) : SV := .lit (.string ⟨⟨l⟩⟩)
section
variable {P : Program} {Γ : Glob} {ops : Array Oper} {o : Oper} {l : List Oper} {tm : T SV} {n d : Nat} {ms : List Nat} {hp : Hp} {Φ : Out → Prop} {g : Fr → Hp → Prop}
theorem oqf (v : SV) (fs : List Fact) (hq : quiet P Γ hp (Fr.ev ⟨tm, n, ms⟩) o.op = some (v, fs)) (h : RunsOps P Γ ops l ⟨tm.set d v, n, ms⟩ hp Φ) (hw : wantedQ ops ⟨tm, n, ms⟩ o = some true := by exact rfl) (hd : o.dst = some d := by exact rfl) (hn : Nat.blt d n = true := by exact rfl) : RunsOps P Γ ops (o :: l) ⟨tm, n, ms⟩ hp Φ := ops_q hw hq hd hn h
theorem oqp (v : SV) (hq : quiet P Γ hp (Fr.ev ⟨tm, n, ms⟩) o.op = some (v, [])) (h : RunsOps P Γ ops l ⟨tm.set d v, n, ms⟩ hp Φ) (hw : wantedQ ops ⟨tm, n, ms⟩ o = some true := by exact rfl) (hd : o.dst = some d := by exact rfl) (hn : Nat.blt d n = true := by exact rfl) : RunsOps P Γ ops (o :: l) ⟨tm, n, ms⟩ hp Φ := ops_q hw hq hd hn h
theorem oq (v : SV) (h : RunsOps P Γ ops l ⟨tm.set d v, n, ms⟩ hp Φ) (hw : wantedQ ops ⟨tm, n, ms⟩ o = some true := by exact rfl) (hq : quiet P Γ hp (Fr.ev ⟨tm, n, ms⟩) o.op = some (v, []) := by exact rfl) (hd : o.dst = some d := by exact rfl) (hn : Nat.blt d n = true := by exact rfl) : RunsOps P Γ ops (o :: l) ⟨tm, n, ms⟩ hp Φ := ops_q hw hq hd hn h
theorem ola (vs : List SV) (k : Nat) {b m : Nat} {cs : List SV} {e t : TypeId} {x : Operand} (g : At hp b (.cells cs e)) (h : RunsOps P Γ ops l ⟨tm.set d (.agg vs), n, ms⟩ hp Φ) (hop : o.op = .load t x := by exact rfl) (ha : Fr.ev ⟨tm, n, ms⟩ x = .ptr b k := by exact rfl) (ht : tyAgg P t = some true := by exact rfl) (hs : tySize P t = some m := by exact rfl) (hc : cut cs k m = some vs := by exact rfl) (hw : wantedQ ops ⟨tm, n, ms⟩ o = some true := by exact rfl) (hd : o.dst = some d := by exact rfl) (hn : Nat.blt d n = true := by exact rfl) : RunsOps P Γ ops (o :: l) ⟨tm, n, ms⟩ hp Φ := ops_q (fs := [.cells b k vs]) hw (by rw [hop]; simp only [quiet, ha]; exact load_cut ht hs g.get hc) hd hn h
theorem olc (v : SV) (k : Nat) {b : Nat} {cs : List SV} {e t : TypeId} {x : Operand} (g : At hp b (.cells cs e)) (h : RunsOps P Γ ops l ⟨tm.set d v, n, ms⟩ hp Φ) (hop : o.op = .load t x := by exact rfl) (ha : Fr.ev ⟨tm, n, ms⟩ x = .ptr b k := by exact rfl) (ht : tyAgg P t = some false := by exact rfl) (hc : cs[k]? = some v := by exact rfl) (hw : wantedQ ops ⟨tm, n, ms⟩ o = some true := by exact rfl) (hd : o.dst = some d := by exact rfl) (hn : Nat.blt d n = true := by exact rfl) : RunsOps P Γ ops (o :: l) ⟨tm, n, ms⟩ hp Φ := ops_q (fs := [.cells b k [v]]) hw (by rw [hop]; simp only [quiet, ha]; exact load_cell ht g.get hc) hd hn h
theorem ou (h : RunsOps P Γ ops l ⟨tm.set d (.lit undef), n, ms⟩ hp Φ) (hw : wantedQ ops ⟨tm, n, ms⟩ o = some false := by exact rfl) (hd : o.dst = some d := by exact rfl) (hn : Nat.blt d n = true := by exact rfl) : RunsOps P Γ ops (o :: l) ⟨tm, n, ms⟩ hp Φ := ops_u hw hd hn h
theorem nt (h : g ⟨tm, n, ms⟩ hp) : RunsOps P Γ ops [] ⟨tm, n, ms⟩ hp (Then g Φ) := ops_nil h
theorem sr {id : Nat} {b : Code} {ro : Option Nat} {fr : Fr} (h : RunsOps P Γ ops ops.toList fr hp (Then (fun f p => Runs P Γ (.code b ro f p) Φ) Φ)) : Runs P Γ (.code (.seq (.region id ops false) b) ro fr hp) Φ := runs_seq (runs_region h)
variable {mask i : Nat} {held : List Held} {fr : Fr} {rest : List Oper} {res : Option (Nat × List Held × Fr × Hp)} {v : SV}
theorem td (h : takeAll P Γ ops rest (i + 1) mask held fr hp = res) (hm : Nat.testBit mask i = true := by exact rfl) : takeAll P Γ ops (o :: rest) i mask held fr hp = res := take_done hm h
theorem tw (h : takeAll P Γ ops rest (i + 1) mask held fr hp = res) (hm : Nat.testBit mask i = false := by exact rfl) (hd : Nat.beq (Nat.land (depsOf o) mask) (depsOf o) = false := by exact rfl) : takeAll P Γ ops (o :: rest) i mask held fr hp = res := take_wait hm hd h
theorem tu {fr2 : Fr} (h : takeAll P Γ ops rest (i + 1) (mask ||| 2 ^ i) held fr2 hp = res) (hm : Nat.testBit mask i = false := by exact rfl) (hd : Nat.beq (Nat.land (depsOf o) mask) (depsOf o) = true := by exact rfl) (hw : wantedQ ops fr o = some false := by exact rfl) (hput : fr.put o.dst (.lit undef) = some fr2 := by exact rfl) : takeAll P Γ ops (o :: rest) i mask held fr hp = res := take_unwanted hm hd hw hput h
theorem tqp (v : SV) (hq : quiet P Γ ⟨hide i held hp.objs, hp.next⟩ (Fr.ev ⟨tm, n, ms⟩) o.op = some (v, [])) (h : takeAll P Γ ops rest (i + 1) (mask ||| 2 ^ i) held ⟨tm.set d v, n, ms⟩ hp = res) (hm : Nat.testBit mask i = false := by exact rfl) (hdp : Nat.beq (Nat.land (depsOf o) mask) (depsOf o) = true := by exact rfl) (hw : wantedQ ops ⟨tm, n, ms⟩ o = some true := by exact rfl) (hd : o.dst = some d := by exact rfl) (hn : Nat.blt d n = true := by exact rfl) : takeAll P Γ ops (o :: rest) i mask held ⟨tm, n, ms⟩ hp = res := take_q hm hdp hw hq hd hn h
theorem tq (v : SV) (h : takeAll P Γ ops rest (i + 1) (mask ||| 2 ^ i) held ⟨tm.set d v, n, ms⟩ hp = res) (hq : quiet P Γ ⟨hide i held hp.objs, hp.next⟩ (Fr.ev ⟨tm, n, ms⟩) o.op = some (v, []) := by exact rfl) (hm : Nat.testBit mask i = false := by exact rfl) (hdp : Nat.beq (Nat.land (depsOf o) mask) (depsOf o) = true := by exact rfl) (hw : wantedQ ops ⟨tm, n, ms⟩ o = some true := by exact rfl) (hd : o.dst = some d := by exact rfl) (hn : Nat.blt d n = true := by exact rfl) : takeAll P Γ ops (o :: rest) i mask held ⟨tm, n, ms⟩ hp = res := take_q hm hdp hw hq hd hn h
end
theorem fb (a : Bool) {b : Bool} (h : a = b) : bV a = bV b := congrArg _ h
theorem fs (a : List UInt8) {b : List UInt8} (h : a = b) : sV a = sV b := congrArg _ h
section
variable {P : Program} {Γ : Glob} {fr : Fr} {hp : Hp} {v : SV} {id k : Nat} {Φ : Out → Prop} {g : Fr → Hp → Prop}
theorem then_n (h : g fr hp) : Then g Φ ⟨.normal, fr, hp, v⟩ := h
theorem then_x (h : Φ ⟨.exit k, fr, hp, v⟩) : Then g Φ ⟨.exit k, fr, hp, v⟩ := h
theorem then_r (h : Φ ⟨.ret, fr, hp, v⟩) : Then g Φ ⟨.ret, fr, hp, v⟩ := h
def BlkEnd (id : Nat) (Φ : Out → Prop) (o : Out) : Prop := Φ (atEnd id o)
theorem runs_blk {c : Code} {ro : Option Nat} (h : Runs P Γ (.code c ro fr hp) (BlkEnd id Φ)) : Runs P Γ (.code (.block id c) ro fr hp) Φ := runs_block h
theorem blk_n (h : Φ ⟨.normal, fr, hp, v⟩) : BlkEnd id Φ ⟨.normal, fr, hp, v⟩ := h
theorem blk_r (h : Φ ⟨.ret, fr, hp, v⟩) : BlkEnd id Φ ⟨.ret, fr, hp, v⟩ := h
theorem blk_x (h : Φ ⟨.normal, fr, hp, v⟩) : BlkEnd id Φ ⟨.exit id, fr, hp, v⟩ := by
  show Φ (bif Nat.beq id id then _ else _)
  rw [beq_t rfl]
  exact h
variable {fn : Func} {tm : T SV} {n t t1 t2 t3 : Nat} {v1 v2 v3 : SV}
theorem leave_t0 (hr : fn.results.toList = []) : leave P Γ fn ⟨.ret, ⟨tm, n, []⟩, hp, v⟩ = some [⟨.ret, ⟨tm, n, []⟩, hp, .tuple []⟩] := by
  simp only [leave, shutMarks, hr, resultsQ]
theorem leave_t1 (hr : fn.results.toList = [.tmp t1]) (h1 : Fr.ev ⟨tm, n, []⟩ (.tmp t1) = v1) : leave P Γ fn ⟨.ret, ⟨tm, n, []⟩, hp, v⟩ = some [⟨.ret, ⟨tm, n, []⟩, hp, v1⟩] := by
  simp only [leave, shutMarks, hr, resultsQ, Option.map_some, h1]
theorem leave_t3 (hr : fn.results.toList = [.tmp t1, .tmp t2, .tmp t3]) (h1 : Fr.ev ⟨tm, n, []⟩ (.tmp t1) = v1) (h2 : Fr.ev ⟨tm, n, []⟩ (.tmp t2) = v2) (h3 : Fr.ev ⟨tm, n, []⟩ (.tmp t3) = v3) : leave P Γ fn ⟨.ret, ⟨tm, n, []⟩, hp, v⟩ = some [⟨.ret, ⟨tm, n, []⟩, hp, .tuple [v1, v2, v3]⟩] := by
  simp only [leave, shutMarks, hr, resultsQ, Option.map_some, h1, h2, h3]
theorem leave_ca {ty e : TypeId} {b m : Nat} {cs : List SV} (hr : fn.results.toList = [.cell t ty]) (ht : tyAgg P ty = some true) (hs : tySize P ty = some m) (he : Fr.ev ⟨tm, n, []⟩ (.tmp t) = .ptr b 0) (hc : hp.objs.get b = some (.cells cs e)) (hl : cs.length = m) : leave P Γ fn ⟨.ret, ⟨tm, n, []⟩, hp, v⟩ = some [⟨.ret, ⟨tm, n, []⟩, hp, .agg cs⟩] := by
  have hl : loadQ P Γ hp ty (.ptr b 0) = some (.agg cs, [.cells b 0 cs]) := load_cut ht hs hc (by rw [← hl]; exact cut_whole cs)
  simp only [leave, shutMarks, hr, resultsQ, he, hl]
end
section
variable {P : Program} {Γ : Glob} {ops : Array Oper} {o : Oper} {r : List Oper} {tm : T SV} {n : Nat} {ms : List Nat} {hp : Hp} {Φ : Out → Prop}
theorem ops_storeA {t e : TypeId} {a x : Operand} {b off m : Nat} {v : SV} {l l2 : List SV} (w1 : wantedQ ops ⟨tm, n, ms⟩ o = some true) (h1 : o.op = .store t a x) (hd : o.dst = none) (hs : tySize P t = some m) (ha : Fr.ev ⟨tm, n, ms⟩ a = .ptr b off) (hx : Fr.ev ⟨tm, n, ms⟩ x = v) (hl : v.cells.length = m) (hb : hp.objs.get b = some (.cells l e)) (hsp : splice l off v.cells = some l2)
    (k : ∀ H, H.objs.get b = some (.cells l2 e) → (∀ c, c ≠ b → H.objs.get c = hp.objs.get c) → H.next = hp.next → RunsOps P Γ ops r ⟨tm, n, ms⟩ H Φ) : RunsOps P Γ ops (o :: r) ⟨tm, n, ms⟩ hp Φ := by
  refine ops_e0 (v := .lit undef) (hp' := ⟨hp.objs.set b (.cells l2 e), hp.next⟩) w1 (by rw [h1]; rfl) (by rw [h1]; rfl) (by rw [h1]; exact store_eff hs ha hx hl hb hsp) (Nat.le_refl _) hd ?_
  exact k _ get_same (fun c hc => get_ne hc) rfl
theorem _root_.Go.Proofs.YtcnfmcbmephdfaaGreatDoor.snap.At.other {h H : Hp} {b : Nat} {o : AObj} (a : At h b o) (j : H.objs.get b = h.objs.get b) (n : H.next = h.next) : At H b o := ⟨by rw [n]; exact a.lt, j.trans a.get⟩
theorem kept_other {lo b : Nat} {h0 h H : Hp} (k : Kept lo h0 h) (j : ∀ c, c ≠ b → H.objs.get c = h.objs.get c) (n : H.next = h.next) (hb : lo ≤ b) : Kept lo h0 H := ⟨by rw [n]; exact k.next, fun c hc => (j c (by omega)).trans (k.old c hc)⟩
end
theorem wrap_i64 {z : Int} (h1 : -9223372036854775808 ≤ z) (h2 : z < 9223372036854775808) : IntKind.i64.wrap z = z := wrap_in h1 h2
theorem wrap_u64 {z : Int} (h1 : 0 ≤ z) (h2 : z < 18446744073709551616) : IntKind.u64.wrap z = z := by
  have h64 : (2 : Int) ^ 64 = 18446744073709551616 := by decide
  simp only [IntKind.wrap, IntKind.signed, IntKind.bits, h64, Int.emod_eq_of_lt h1 h2, Bool.false_and, Bool.false_eq_true, if_false]
theorem ba_toList (l : List UInt8) : (⟨⟨l⟩⟩ : ByteArray).toList = l := by
  have h : ∀ (k : Nat) (i : Nat) (r : List UInt8), l.length - i = k → ByteArray.toList.loop ⟨⟨l⟩⟩ i r = r.reverse ++ l.drop i := by
    intro k
    induction k with
    | zero =>
      intro i r hk
      rw [ByteArray.toList.loop, if_neg (by show ¬ i < l.length; omega), List.drop_eq_nil_of_le (by omega), List.append_nil]
    | succ k ih =>
      intro i r hk
      rw [ByteArray.toList.loop, if_pos (by show i < l.length; omega), ih (i + 1) _ (by omega)]
      have hi : i < l.length := by omega
      have e : (⟨⟨l⟩⟩ : ByteArray).get! i = l[i] := by
        show (Array.mk l)[i]! = l[i]
        simp [hi]
      rw [e, List.reverse_cons, List.append_assoc, List.drop_eq_getElem_cons hi]
      rfl
  have := h l.length 0 [] (by omega)
  simpa [ByteArray.toList] using this
def bAt (l : List UInt8) (i : Int) : Int := ((l[i.toNat]?).getD 0).toNat
theorem bAt_range (l : List UInt8) (i : Int) : 0 ≤ bAt l i ∧ bAt l i < 256 := by
  unfold bAt
  generalize (l[i.toNat]?).getD 0 = b
  have : b.toNat < 256 := UInt8.toNat_lt b
  omega
def tFrom (l : List UInt8) (i : Int) : List UInt8 := l.drop i.toNat
theorem ba_get {l : List UInt8} {i : Nat} : (⟨⟨l⟩⟩ : ByteArray)[i]? = l[i]? := by
  show (if h : i < l.length then some ((⟨⟨l⟩⟩ : ByteArray).get i h) else none) = _
  by_cases h : i < l.length
  · rw [dif_pos h, List.getElem?_eq_getElem h]; rfl
  · rw [dif_neg h, List.getElem?_eq_none (by omega)]
theorem ba_extract (l : List UInt8) (i j : Nat) : (⟨⟨l⟩⟩ : ByteArray).extract i j = ⟨⟨(l.drop i).take (j - i)⟩⟩ := by
  apply ByteArray.ext
  rw [ByteArray.data_extract]
  apply Array.ext'
  rw [Array.toList_extract]
set_option maxRecDepth 20000 in
theorem txt_at {l : List UInt8} {i : Int} (h0 : 0 ≤ i) (h1 : i < l.length) : indexQ Tryz.prog 9 (.lit (.string ⟨⟨l⟩⟩)) (.lit (.int .i64 i)) = some (.lit (.int .u8 (bAt l i))) := by
  have hi : i.toNat < l.length := by omega
  show (pureRun Tryz.prog (match (if 0 ≤ i then (⟨⟨l⟩⟩ : ByteArray)[i.toNat]? else none) with
    | some b => pure (.int .u8 b.toNat)
    | none => boundsPanic .i64 i (⟨⟨l⟩⟩ : ByteArray).size .index)).map SV.lit = _
  rw [if_pos h0, ba_get, List.getElem?_eq_getElem hi]
  simp only [bAt, List.getElem?_eq_getElem hi, Option.getD_some]
  rfl
theorem bound_in {i : Int} {n : Nat} {c : BoundsCode} (h0 : 0 ≤ i) (h1 : i ≤ n) : Instr.sliceBound (.int .i64 i) n c = pure i.toNat := by
  show (if 0 ≤ i ∧ i ≤ n then pure i.toNat else boundsPanic .i64 i n c) = _
  rw [if_pos ⟨h0, h1⟩]
theorem run_bind {α β : Type} (P : Program) (s : Sem α) (f : α → Sem β) : pureRun P (s >>= f) = (pureRun P s).bind fun a => pureRun P (f a) := by
  show pureRun P (s.bind f) = _
  induction s with
  | pure a => rfl
  | program k ih => exact ih P
  | mark m k ih => exact ih
  | _ => rfl
theorem bounds_lo {P : Program} {n : Nat} {i : Int} (h0 : 0 ≤ i) (h1 : i ≤ n) : pureRun P (Instr.sliceBounds false n n (some (.int .i64 i)) none none) = some (i.toNat, n, n) := by
  show pureRun P (Instr.sliceBound (.int .i64 i) n .sliceB >>= fun l => pure (l, n, n)) = _
  rw [bound_in h0 h1]
  rfl
set_option maxRecDepth 20000 in
theorem txt_from {l : List UInt8} {i : Int} (h0 : 0 ≤ i) (h1 : i ≤ l.length) : sliceQ Tryz.prog 9 (.lit (.string ⟨⟨l⟩⟩)) (some (.lit (.int .i64 i))) none none = some (.lit (.string ⟨⟨tFrom l i⟩⟩)) := by
  show (pureRun Tryz.prog (Instr.sliceBounds false l.length l.length (some (.int .i64 i)) none none >>= fun x => pure (.string ((⟨⟨l⟩⟩ : ByteArray).extract x.1 x.2.1)))).map SV.lit = _
  rw [run_bind, bounds_lo h0 h1]
  show some (SV.lit (.string ((⟨⟨l⟩⟩ : ByteArray).extract i.toNat l.length))) = _
  rw [ba_extract, List.take_of_length_le (by rw [List.length_drop]; omega)]
  rfl
theorem tFrom_len {l : List UInt8} {i : Int} (h0 : 0 ≤ i) (h1 : i ≤ l.length) : ((tFrom l i).length : Int) = l.length - i := by
  rw [tFrom, List.length_drop]; omega
set_option maxRecDepth 20000 in
theorem t_eql {x y : Operand} {a b : List UInt8} : binQ Tryz.prog .eql 9 x y (.lit (.string ⟨⟨a⟩⟩)) (.lit (.string ⟨⟨b⟩⟩)) = some (.lit (.bool (decide (a = b)))) := by
  show some (SV.lit (.bool ((⟨⟨a⟩⟩ : ByteArray).toList == (⟨⟨b⟩⟩ : ByteArray).toList))) = _
  rw [ba_toList, ba_toList]
  by_cases h : a = b <;> simp [h]
theorem t_eqlT {x y : Operand} {a b : List UInt8} (h : a = b) : binQ Tryz.prog .eql 9 x y (.lit (.string ⟨⟨a⟩⟩)) (.lit (.string ⟨⟨b⟩⟩)) = some (.lit (.bool true)) := t_eql.trans (by rw [decide_eq_true h])
theorem t_eqlF {x y : Operand} {a b : List UInt8} (h : ¬ a = b) : binQ Tryz.prog .eql 9 x y (.lit (.string ⟨⟨a⟩⟩)) (.lit (.string ⟨⟨b⟩⟩)) = some (.lit (.bool false)) := t_eql.trans (by rw [decide_eq_false h])
theorem len_pos {l : List UInt8} (h : ¬ l = []) : 0 < (l.length : Int) := by
  cases l with
  | nil => exact absurd rfl h
  | cons a l => rw [List.length_cons]; omega
theorem fact_of {α : Type} {p : α → Prop} {a b : α} (h : a = b) (hp : p a) : p b := h ▸ hp
theorem same_int (k : IntKind) (a : Int) : SV.same (.lit (.int k a)) (.lit (.int k a)) = true := by
  simp [SV.same, litSame]
theorem same_bool (b : Bool) : SV.same (.lit (.bool b)) (.lit (.bool b)) = true := by
  simp [SV.same, litSame]
theorem same_txt (b : ByteArray) : SV.same (.lit (.string b)) (.lit (.string b)) = true := by
  simp [SV.same, litSame]
theorem same_ptr (a b : Nat) : SV.same (.ptr a b) (.ptr a b) = true := by
  simp [SV.same]
theorem same_nils (a b : Nat) : SV.same (.lit (.slice none a b)) (.lit (.slice none a b)) = true := by
  simp [SV.same, litSame]
theorem same_nilm : SV.same (.lit (.map none)) (.lit (.map none)) = true := rfl
theorem same_nilp : SV.same (.lit (.pointer none)) (.lit (.pointer none)) = true := rfl
theorem pureRun_bind {α β : Type} (P : Program) (s : Sem α) (f : α → Sem β) : pureRun P (s >>= f) = (pureRun P s).bind fun a => pureRun P (f a) := run_bind P s f
theorem pureRun_pure {α : Type} (P : Program) (a : α) : pureRun P (pure a) = some a := rfl
theorem ba_beq (a b : List UInt8) : ((⟨⟨a⟩⟩ : ByteArray) == ⟨⟨b⟩⟩) = (a == b) := by
  show ((⟨a⟩ : Array UInt8) == ⟨b⟩) = _
  rw [Bool.eq_iff_iff, beq_iff_eq, beq_iff_eq]
  simp
structure Win (h : Hp) (b o : Nat) (cs : List SV) : Prop where
  lt : b < h.next
  get : ∃ l, knownCells h b = some l ∧ cut l o cs.length = some cs
structure GWin (Γ : Glob) (g o : Nat) (cs : List SV) : Prop where
  get : ∃ l, Γ.get g = some l ∧ cut (l.map .lit) o cs.length = some cs
theorem known_of {h H : Hp} {b : Nat} (e : H.objs.get b = h.objs.get b) : knownCells H b = knownCells h b := by
  simp only [knownCells, e]
theorem Win.kept {h H : Hp} {b o : Nat} {cs : List SV} (w : Win h b o cs) (k : Kept h.next h H) : Win H b o cs := ⟨Nat.lt_of_lt_of_le w.lt k.next, by rw [known_of (k.old b w.lt)]; exact w.get⟩
theorem Win.other {h H : Hp} {b o : Nat} {cs : List SV} (w : Win h b o cs) (j : H.objs.get b = h.objs.get b) (n : H.next = h.next) : Win H b o cs := ⟨by rw [n]; exact w.lt, by rw [known_of j]; exact w.get⟩
theorem Win.ofAt {h : Hp} {b : Nat} {cs : List SV} {e : TypeId} (a : At h b (.cells cs e)) : Win h b 0 cs := ⟨a.lt, cs, by simp only [knownCells, a.get], cut_whole cs⟩
theorem cut_spec {l r : List SV} {o n : Nat} : cut l o n = some r ↔ (l.drop o).take n = r ∧ ((l.drop o).take n).length = n := by
  show (bif Nat.beq ((l.drop o).take n).length n then some ((l.drop o).take n) else none) = some r ↔ _
  cases hb : Nat.beq ((l.drop o).take n).length n with
  | false => exact ⟨fun h => (by cases h), fun h => (by rw [beq_t h.2] at hb; cases hb)⟩
  | true => exact ⟨fun h => ⟨Option.some.inj h, Nat.eq_of_beq_eq_true hb⟩, fun h => congrArg some h.1⟩
theorem cut_cut {l cs vs : List SV} {o k n : Nat} (h : cut l o cs.length = some cs) (hv : cut cs k n = some vs) : cut l (o + k) n = some vs := by
  obtain ⟨e1, _⟩ := cut_spec.1 h
  obtain ⟨e2, hlen⟩ := cut_spec.1 hv
  have e3 : (l.drop (o + k)).take n = (cs.drop k).take n := by
    have : (cs.drop k).take n = (((l.drop o).take cs.length).drop k).take n := by rw [e1]
    rw [this, List.drop_take, List.drop_drop, List.take_take]
    rw [List.length_take, List.length_drop] at hlen
    rw [Nat.min_eq_left (by omega)]
  exact cut_spec.2 ⟨e3.trans e2, by rw [e3]; exact hlen⟩
section
variable {P : Program} {Γ : Glob} {h : Hp} {t : TypeId} {b g o k n : Nat} {cs vs : List SV} {v : SV}
theorem cut_one (hv : cs[k]? = some v) : cut cs k 1 = some [v] := by
  have : (cs.drop k).take 1 = [v] := by rw [List.take_one, List.head?_drop, hv]; rfl
  simp only [cut, this]; rfl
theorem win_cell (ht : tyAgg P t = some false) (w : Win h b o cs) (hv : cs[k]? = some v) : loadQ P Γ h t (.ptr b (o + k)) = some (v, [.cells b (o + k) [v]]) := by
  obtain ⟨l, h1, h2⟩ := w.get
  simp only [loadQ, ht, readCells, h1, Option.bind_some, cut_cut h2 (cut_one hv)]
theorem win_cut (ht : tyAgg P t = some true) (hs : tySize P t = some n) (w : Win h b o cs) (hv : cut cs k n = some vs) : loadQ P Γ h t (.ptr b (o + k)) = some (.agg vs, [.cells b (o + k) vs]) := by
  obtain ⟨l, h1, h2⟩ := w.get
  simp only [loadQ, ht, hs, readCells, h1, Option.bind_some, cut_cut h2 hv]
theorem gwin_cell (ht : tyAgg P t = some false) (w : GWin Γ g o cs) (hv : cs[k]? = some v) : loadQ P Γ h t (.lit (.pointer (some ⟨g, o + k, none⟩))) = some (v, []) := by
  obtain ⟨l, h1, h2⟩ := w.get
  simp only [loadQ, ht, readCells, h1, Option.bind_some, cut_cut h2 (cut_one hv)]
theorem gwin_cut (ht : tyAgg P t = some true) (hs : tySize P t = some n) (w : GWin Γ g o cs) (hv : cut cs k n = some vs) : loadQ P Γ h t (.lit (.pointer (some ⟨g, o + k, none⟩))) = some (.agg vs, []) := by
  obtain ⟨l, h1, h2⟩ := w.get
  simp only [loadQ, ht, hs, readCells, h1, Option.bind_some, cut_cut h2 hv]
end
def PtrTo (Γ : Glob) (h : Hp) (p : SV) (cs : List SV) : Prop := (∃ b o, p = .ptr b o ∧ Win h b o cs) ∨ (∃ g o, p = .lit (.pointer (some ⟨g, o, none⟩)) ∧ GWin Γ g o cs)
theorem PtrTo.kept {Γ : Glob} {h H : Hp} {p : SV} {cs : List SV} (w : PtrTo Γ h p cs) (k : Kept h.next h H) : PtrTo Γ H p cs := w.imp (fun ⟨b, o, e, w⟩ => ⟨b, o, e, w.kept k⟩) id
theorem PtrTo.ofAt {Γ : Glob} {h : Hp} {b : Nat} {cs : List SV} {e : TypeId} (a : At h b (.cells cs e)) : PtrTo Γ h (.ptr b 0) cs := .inl ⟨b, 0, rfl, .ofAt a⟩
def LenIs (L : SV) (n : Int) : Prop := SV.one L = true ∧ SV.same L L = true ∧ ∀ h, lenQ Tryz.prog h 34 L = some (.lit (.int .i64 n), [])
set_option maxRecDepth 20000 in
theorem lenIs_nil (c : Nat) : LenIs (.lit (.slice none 0 c)) 0 := ⟨rfl, same_nils 0 c, fun _ => rfl⟩
set_option maxRecDepth 20000 in
theorem b_neq {x y : Operand} {a b r : Bool} (h : (!(a == b)) = r) : binQ Tryz.prog .neq 4 x y (.lit (.bool a)) (.lit (.bool b)) = some (.lit (.bool r)) := by
  rw [← h]
  rfl
section
variable {P : Program} {Γ : Glob} {ops : Array Oper} {k mask m' i d : Nat} {held held' : List Held} {hp hp' : Hp} {Φ : Out → Prop} {fr' : Fr} {tm : T SV} {n : Nat} {ms : List Nat} {v : SV} {b nx : Nat} {ob : AObj} {o : Oper} {rest : List Oper} {res : Option (Nat × List Held × Fr × Hp)} {fr : Fr}
theorem drawn_endL (ht : takeAll P Γ ops ops.toList 0 mask held fr hp = some (m', held', fr', hp')) (hr : readyNow m' ops.toList 0 = []) (hm : Nat.beq m' (2 ^ ops.size - 1) = true) (h : ∀ H, H = hp' → Φ ⟨.normal, fr', H, .lit undef⟩) : RunsDrawn P Γ ops (k + 1) mask held fr hp Φ := drawn_end ht hr hm (h _ rfl)
theorem take_localS (hm : Nat.testBit mask i = false) (hdp : Nat.beq (Nat.land (depsOf o) mask) (depsOf o) = true) (hw : wantedQ ops ⟨tm, n, ms⟩ o = some true) (hq : quiet P Γ ⟨hide i held hp.objs, hp.next⟩ (Fr.ev ⟨tm, n, ms⟩) o.op = none)
    (hl : localE P ⟨hide i held hp.objs, hp.next⟩ (Fr.ev ⟨tm, n, ms⟩) o.op = some (v, b, ob, nx)) (hn : noneLeans i b held = true) (hd : o.dst = some d) (hb : Nat.blt d n = true)
    (h : takeAll P Γ ops rest (i + 1) (mask ||| 2 ^ i) (⟨descOf i ops.toList 0 0, [], some (b, ob)⟩ :: held) ⟨tm.set d v, n, ms⟩ ⟨hp.objs.set b ob, nx⟩ = res) : takeAll P Γ ops (o :: rest) i mask held ⟨tm, n, ms⟩ hp = res := take_local hm hdp hw hq hl hn (put_slot hd hb) h
theorem take_local0 (hm : Nat.testBit mask i = false) (hdp : Nat.beq (Nat.land (depsOf o) mask) (depsOf o) = true) (hw : wantedQ ops ⟨tm, n, ms⟩ o = some true) (hq : quiet P Γ ⟨hide i held hp.objs, hp.next⟩ (Fr.ev ⟨tm, n, ms⟩) o.op = none)
    (hl : localE P ⟨hide i held hp.objs, hp.next⟩ (Fr.ev ⟨tm, n, ms⟩) o.op = some (v, b, ob, nx)) (hn : noneLeans i b held = true) (hd : o.dst = none)
    (h : takeAll P Γ ops rest (i + 1) (mask ||| 2 ^ i) (⟨descOf i ops.toList 0 0, [], some (b, ob)⟩ :: held) ⟨tm, n, ms⟩ ⟨hp.objs.set b ob, nx⟩ = res) : takeAll P Γ ops (o :: rest) i mask held ⟨tm, n, ms⟩ hp = res := take_local hm hdp hw hq hl hn (by rw [hd]; rfl) h
theorem local_store {h : Hp} {ρ : Operand → SV} {t e : TypeId} {a x : Operand} {off m : Nat} {l l2 : List SV} {v2 : SV} (hs : tySize P t = some m) (ha : ρ a = .ptr b off) (hx : ρ x = v2) (hl : v2.cells.length = m) (hb : h.objs.get b = some (.cells l e)) (hsp : splice l off v2.cells = some l2) :
    localE P h ρ (.store t a x) = some (.lit undef, b, .cells l2 e, h.next) := by
  simp only [localE, hs, ha, hx, beq_t hl, cond_true, hb, hsp, Option.map_some]
theorem new_of {h M : Hp} {o : AObj} (e : M = ⟨h.objs.set h.next o, h.next + 1⟩) : At M h.next o ∧ Kept h.next h M ∧ M.next = h.next + 1 := by
  subst e
  exact ⟨⟨Nat.lt_succ_self _, get_same⟩, ⟨Nat.le_succ _, fun b hb => get_ne (Nat.ne_of_lt hb)⟩, rfl⟩
theorem set_of {h M : Hp} {b : Nat} {o : AObj} (e : M = ⟨h.objs.set b o, h.next⟩) : M.objs.get b = some o ∧ (∀ c, c ≠ b → M.objs.get c = h.objs.get c) ∧ M.next = h.next := by
  subst e
  exact ⟨get_same, fun c hc => get_ne hc, rfl⟩
end
structure ND where
  k : Int
  v0 : Int
  v1 : Int
  v2 : Int
  v3 : List UInt8
  v4 : Bool
  v5 : Int
  name : List UInt8
  a0 : Int
  a1 : Int
  a2 : Int
  a3 : Int
  a4 : Bool
  a5 : Bool
  b0 : Int
  b1 : Int
  b2 : Int
  b3 : Int
  b4 : Bool
  b5 : Bool
  rows : Int
def ND.cells (x : ND) (L : SV) : List SV := [.lit (.int .i64 x.k), .lit (.int .i64 x.v0), .lit (.int .i64 x.v1), .lit (.int .i64 x.v2), .lit (.string ⟨⟨x.v3⟩⟩), .lit (.bool x.v4), .lit (.int .i64 x.v5), .lit (.string ⟨⟨x.name⟩⟩), .lit (.int .i64 x.a0), .lit (.int .i64 x.a1), .lit (.int .i64 x.a2), .lit (.int .i64 x.a3), .lit (.bool x.a4), .lit (.bool x.a5), .lit (.int .i64 x.b0), .lit (.int .i64 x.b1), .lit (.int .i64 x.b2), .lit (.int .i64 x.b3), .lit (.bool x.b4), .lit (.bool x.b5), .lit (.int .i64 x.rows), L]
def bytesC (l : List UInt8) : List SV := l.map fun b => .lit (.int .u8 b.toNat)
set_option maxRecDepth 20000 in
theorem ops_bytes {Γ : Glob} {ops : Array Oper} {o : Oper} {r : List Oper} {tm : T SV} {n d : Nat} {ms : List Nat} {hp : Hp} {Φ : Out → Prop} {x : Operand} {l : List UInt8} (w1 : wantedQ ops ⟨tm, n, ms⟩ o = some true) (h1 : o.op = .convert 9 55 x) (hx : Fr.ev ⟨tm, n, ms⟩ x = .lit (.string ⟨⟨l⟩⟩)) (hd : o.dst = some d) (hn : Nat.blt d n = true)
    (k : ∀ H, At H hp.next (.row (bytesC l) 5 l.length hp.next 1) → Kept hp.next hp H → H.next = hp.next + 1 → RunsOps Tryz.prog Γ ops r ⟨tm.set d (.row hp.next 0 l.length l.length hp.next), n, ms⟩ H Φ) : RunsOps Tryz.prog Γ ops (o :: r) ⟨tm, n, ms⟩ hp Φ := by
  refine ops_e (v := .row hp.next 0 l.length l.length hp.next) (hp' := ⟨hp.objs.set hp.next (.row (bytesC l) 5 l.length hp.next 1), hp.next + 1⟩) w1 (by rw [h1]; simp only [quiet, hx]; rfl) (by rw [h1]; rfl) (by rw [h1]; simp only [effect, hx]; rfl) (Nat.le_succ _) hd hn ?_
  exact k _ ⟨Nat.lt_succ_self _, get_same⟩ ⟨Nat.le_succ _, fun b hb => get_ne (Nat.ne_of_lt hb)⟩ rfl
theorem row_at {P : Program} {t e : TypeId} {b len k cv : Nat} {i : Int} (ht : tyU P t = some (.slice e)) (hs : tySize P e = some 1) (h0 : 0 ≤ i) (h1 : i < len) : indexAddrQ P t (.row b 0 len k cv) (.lit (.int .i64 i)) = some (.ptr b (Int.toNat i)) := by
  obtain ⟨j, rfl⟩ := Int.eq_ofNat_of_zero_le h0
  have hj : j < len := by omega
  have e := show indexAddrQ P t (.row b 0 len k cv) (.lit (.int .i64 (Int.ofNat j))) = some (.ptr b (0 + j * 1)) by
    simp only [indexAddrQ, ht, hs, idxQ]
    rw [show Nat.blt j len = true from Nat.ble_eq_true_of_le hj, cond_true]
  rw [Nat.zero_add, Nat.mul_one] at e
  exact e
theorem load_byte {Γ : Glob} {h : Hp} {b c cv z : Nat} {e t : TypeId} {l : List UInt8} {i : Int} (ht : tyAgg Tryz.prog t = some false) (hb : h.objs.get b = some (.row (bytesC l) e c cv z)) (h0 : 0 ≤ i) (h1 : i < l.length) :
    loadQ Tryz.prog Γ h t (.ptr b (Int.toNat i)) = some (.lit (.int .u8 (bAt l i)), [.cells b (Int.toNat i) [.lit (.int .u8 (bAt l i))]]) := by
  have hi : i.toNat < l.length := by omega
  have hv : cut (bytesC l) i.toNat 1 = some [.lit (.int .u8 (bAt l i))] := by
    have : ((bytesC l).drop i.toNat).take 1 = [.lit (.int .u8 (bAt l i))] := by
      rw [List.take_one, List.head?_drop, bytesC, List.getElem?_map, List.getElem?_eq_getElem hi]
      simp only [bAt, List.getElem?_eq_getElem hi, Option.getD_some]
      rfl
    simp only [cut, this]
    rfl
  simp only [loadQ, ht, readCells, knownCells, hb, Option.bind_some, hv]
end Go.Proofs.YtcnfmcbmephdfaaGreatDoor.d
namespace Go.Proofs.YtcnfmcbmephdfaaGreatDoor.d
open Go Go.Proofs.YtcnfmcbmephdfaaGreatDoor.Ev Go.Proofs.YtcnfmcbmephdfaaGreatDoor.snap
theorem slc_at {P : Program} {t e : TypeId} {b len c : Nat} {i : Int} (ht : tyU P t = some (.slice e)) (hs : tySize P e = some 1) (h0 : 0 ≤ i) (h1 : i < len) : indexAddrQ P t (.slice b 0 len c) (.lit (.int .i64 i)) = some (.ptr b (Int.toNat i)) := by
  obtain ⟨j, rfl⟩ := Int.eq_ofNat_of_zero_le h0
  have hj : j < len := by omega
  have e := show indexAddrQ P t (.slice b 0 len c) (.lit (.int .i64 (Int.ofNat j))) = some (.ptr b (0 + j * 1)) by
    simp only [indexAddrQ, ht, hs, idxQ]
    rw [show Nat.blt j len = true from Nat.ble_eq_true_of_le hj, cond_true]
  rw [Nat.zero_add, Nat.mul_one] at e
  exact e
theorem load_byteS {Γ : Glob} {h : Hp} {b : Nat} {e t : TypeId} {l : List UInt8} {i : Int} (ht : tyAgg Tryz.prog t = some false) (hb : h.objs.get b = some (.cells (bytesC l) e)) (h0 : 0 ≤ i) (h1 : i < l.length) :
    loadQ Tryz.prog Γ h t (.ptr b (Int.toNat i)) = some (.lit (.int .u8 (bAt l i)), [.cells b (Int.toNat i) [.lit (.int .u8 (bAt l i))]]) := by
  have hi : i.toNat < l.length := by omega
  have hv : cut (bytesC l) i.toNat 1 = some [.lit (.int .u8 (bAt l i))] := by
    refine cut_one ?_
    rw [bytesC, List.getElem?_map, List.getElem?_eq_getElem hi]
    simp only [bAt, List.getElem?_eq_getElem hi, Option.getD_some]
    rfl
  simp only [loadQ, ht, readCells, knownCells, hb, Option.bind_some, hv]
section
variable {Γ : Glob} {ops : Array Oper} {o : Oper} {r : List Oper} {tm : T SV} {n d : Nat} {ms : List Nat} {hp : Hp} {Φ : Out → Prop}
set_option maxRecDepth 20000 in
theorem ops_sameconv {t e e' : TypeId} {x : Operand} {b off m c : Nat} {cs : List SV} (w1 : wantedQ ops ⟨tm, n, ms⟩ o = some true) (h1 : o.op = .convert t t x) (hx : Fr.ev ⟨tm, n, ms⟩ x = .slice b off m c) (hb : hp.objs.get b = some (.cells cs e')) (ht : tyU Tryz.prog t = some (.slice e)) (hu : tyU Tryz.prog e = some (.int .u8)) (hd : o.dst = some d) (hn : Nat.blt d n = true)
    (k : ∀ H, Kept hp.next hp H → RunsOps Tryz.prog Γ ops r ⟨tm.set d (.slice b off m c), n, ms⟩ H Φ) : RunsOps Tryz.prog Γ ops (o :: r) ⟨tm, n, ms⟩ hp Φ := by
  refine ops_e (v := .slice b off m c) (hp' := hp.upd b (.cells cs e')) w1 (by rw [h1]; simp only [quiet, hx, convertQ, ht]; rfl) (by rw [h1]; rfl) (by rw [h1]; simp only [effect, hx, bytesE, ht, hu, beq_t rfl, hb]; rfl) (Nat.le_refl _) hd hn ?_
  refine k _ ⟨Nat.le_refl _, fun c hc => ?_⟩
  show (hp.objs.set b _).get c = _
  rw [T.get_set]
  by_cases e : c = b
  · rw [if_pos e, e, hb]
  · rw [if_neg e]
end
end Go.Proofs.YtcnfmcbmephdfaaGreatDoor.d
namespace Go.Proofs.YtcnfmcbmephdfaaGreatDoor.d
open Go Go.Proofs.YtcnfmcbmephdfaaGreatDoor.Ev Go.Proofs.YtcnfmcbmephdfaaGreatDoor.snap
def padd (p : SV) (n : Nat) : SV := match p with
  | .ptr b o => .ptr b (o + n)
  | .lit (.pointer (some ⟨g, o, none⟩)) => .lit (.pointer (some ⟨g, o + n, none⟩))
  | v => v
def pfacts (p : SV) (k : Nat) (vs : List SV) : List Fact := match p with
  | .ptr b o => [.cells b (o + k) vs]
  | _ => []
section
variable {P : Program} {Γ : Glob} {h : Hp} {t s : TypeId} {k n i off : Nat} {cs vs : List SV} {v p : SV}
theorem PtrTo.cases {C : SV → Prop} (w : PtrTo Γ h p cs) (h1 : ∀ b o, C (.ptr b o)) (h2 : ∀ g o, C (.lit (.pointer (some ⟨g, o, none⟩)))) : C p := by
  rcases w with ⟨b, o, rfl, _⟩ | ⟨g, o, rfl, _⟩
  · exact h1 b o
  · exact h2 g o
theorem px_nil (w : PtrTo Γ h p cs) : (bif nonNil p then some (p, ([] : List Fact)) else none) = some (p, []) := w.cases (C := fun p => (bif nonNil p then some (p, ([] : List Fact)) else none) = some (p, [])) (fun _ _ => rfl) fun _ _ => rfl
theorem px_field (w : PtrTo Γ h p cs) (h1 : ∀ b o, fieldAddrQ P s (.ptr b o) i = some (.ptr b (o + off))) (h2 : ∀ g o, fieldAddrQ P s (.lit (.pointer (some ⟨g, o, none⟩))) i = some (.lit (.pointer (some ⟨g, o + off, none⟩)))) : fieldAddrQ P s p i = some (padd p off) := w.cases (C := fun p => fieldAddrQ P s p i = some (padd p off)) h1 h2
theorem px_fieldk (w : PtrTo Γ h p cs) (h1 : ∀ b o, fieldAddrQ P s (.ptr b (o + k)) i = some (.ptr b (o + off))) (h2 : ∀ g o, fieldAddrQ P s (.lit (.pointer (some ⟨g, o + k, none⟩))) i = some (.lit (.pointer (some ⟨g, o + off, none⟩)))) : fieldAddrQ P s (padd p k) i = some (padd p off) := w.cases (C := fun p => fieldAddrQ P s (padd p k) i = some (padd p off)) h1 h2
theorem px_cell (ht : tyAgg P t = some false) (w : PtrTo Γ h p cs) (hv : cs[k]? = some v) : loadQ P Γ h t (padd p k) = some (v, pfacts p k [v]) := by
  rcases w with ⟨b, o, rfl, w⟩ | ⟨g, o, rfl, w⟩
  · exact win_cell ht w hv
  · exact gwin_cell ht w hv
theorem px_cut (ht : tyAgg P t = some true) (hs : tySize P t = some n) (w : PtrTo Γ h p cs) (hv : cut cs k n = some vs) : loadQ P Γ h t (padd p k) = some (.agg vs, pfacts p k vs) := by
  rcases w with ⟨b, o, rfl, w⟩ | ⟨g, o, rfl, w⟩
  · exact win_cut ht hs w hv
  · exact gwin_cut ht hs w hv
end
theorem cells_one {v : SV} (h : SV.one v = true) : SV.cells v = [v] := by
  cases v with
  | lit x => cases x <;> first | rfl | cases h
  | agg l => cases h
  | _ => rfl
theorem fill_raw {place : Nat → Option (Nat × Nat)} {i off : Nat} {v : SV} {l : List SV} {rest : List (Nat × SV)} {r : Option (List SV)} (hp : place i = some (off, 1)) (ho : SV.one v = true) (hl : off < l.length) (h : fillQ place (l.take off ++ [v] ++ l.drop (off + 1)) rest = r) : fillQ place l ((i, v) :: rest) = r := by
  have hsp : splice l off [v] = some (l.take off ++ [v] ++ l.drop (off + 1)) := by
    simp only [splice, List.length_singleton, Nat.ble_eq_true_of_le (show off + 1 ≤ l.length from hl), List.all_cons, List.all_nil, ho, Bool.and_self, cond_true]
  rw [fillQ]
  simp only [hp, cells_one ho, List.length_singleton, beq_t rfl, cond_true, hsp]
  exact h
theorem fill_lit {place : Nat → Option (Nat × Nat)} {i off size : Nat} {v : SV} {l l2 : List SV} {rest : List (Nat × SV)} {r : Option (List SV)} (hp : place i = some (off, size)) (hl : v.cells.length = size) (hsp : splice l off v.cells = some l2) (h : fillQ place l2 rest = r) : fillQ place l ((i, v) :: rest) = r := by
  rw [fillQ]
  simp only [hp, beq_t hl, cond_true, hsp]
  exact h
theorem build_of {P : Program} {t : TypeId} {z : Value} {fields : Array Field} {places : List (Nat × Nat)} {ps : List (Nat × SV)} {l2 : List SV} (hz : tyZero P t = some z) (hu : tyU P t = some (.struct fields)) (hs : sizesQ P fields.toList = some places) (h1 : fillQ (places[·]?) (SV.cells (.lit z)) ps = some l2) : buildQ P t ps = some (.agg l2) := by
  simp only [buildQ, hz, hu, hs, h1, Option.map_some]
def hcons (d : Nat) (fs : List Fact) (l : List Held) : List Held := match fs with
  | [] => l
  | _ => ⟨d, fs, none⟩ :: l
def noChg : List Held → Prop
  | [] => True
  | x :: l => x.chg = none ∧ noChg l
theorem noChg_hcons {d : Nat} {fs : List Fact} {l : List Held} (h : noChg l) : noChg (hcons d fs l) := by
  unfold hcons
  split
  · exact h
  · exact ⟨rfl, h⟩
theorem noChg_cons {d : Nat} {fs : List Fact} {l : List Held} (h : noChg l) : noChg (⟨d, fs, none⟩ :: l) := ⟨rfl, h⟩
theorem hide_no (i : Nat) : ∀ (l : List Held) (t : T AObj), noChg l → hide i l t = t
  | [], _, _ => rfl
  | x :: l, t, h => by
    simp only [hide, h.1]
    exact hide_no i l t h.2
theorem showed_no (i : Nat) (t r : T AObj) : ∀ (l : List Held) (acc : T AObj), noChg l → showed i t r l acc = some acc
  | [], _, _ => rfl
  | x :: l, acc, h => by
    simp only [showed, h.1]
    exact showed_no i t r l acc h.2
def standsL (r : Hp) (i : Nat) : List Held → Bool
  | [] => true
  | x :: l => (bif Nat.testBit x.desc i then true else x.facts.all (factHolds r)) && standsL r i l
theorem factsStand_of {r : Hp} {i : Nat} {all : List Held} : ∀ {l : List Held}, standsL r i l = true → factsStand r i all l = true
  | [], _ => rfl
  | x :: l, h => by
    simp only [standsL, Bool.and_eq_true] at h
    simp only [factsStand, Bool.and_eq_true]
    refine ⟨?_, factsStand_of h.2⟩
    have h1 := h.1
    cases hb : Nat.testBit x.desc i with
    | true => rfl
    | false =>
      rw [hb, cond_false] at h1
      rw [cond_false, List.all_eq_true]
      intro f hf
      rw [List.all_eq_true.1 h1 f hf, Bool.or_true]
theorem stands_nil {r : Hp} {i : Nat} : standsL r i [] = true := rfl
theorem stands_yes {r : Hp} {i d : Nat} {fs : List Fact} {l : List Held} (h : Nat.testBit d i = true) (hl : standsL r i l = true) : standsL r i (⟨d, fs, none⟩ :: l) = true := by
  simp only [standsL, h, cond_true, hl, Bool.and_self]
theorem stands_hyes {r : Hp} {i d : Nat} {fs : List Fact} {l : List Held} (h : Nat.testBit d i = true) (hl : standsL r i l = true) : standsL r i (hcons d fs l) = true := by
  unfold hcons
  split
  · exact hl
  · exact stands_yes h hl
theorem drop_yes {i d : Nat} {fs : List Fact} {l l' : List Held} (h : Nat.testBit d i = true) (hl : drop i l = l') : drop i (⟨d, fs, none⟩ :: l) = l' := by
  simp only [drop, h, cond_true, hl]
theorem drop_hyes {i d : Nat} {fs : List Fact} {l l' : List Held} (h : Nat.testBit d i = true) (hl : drop i l = l') : drop i (hcons d fs l) = l' := by
  unfold hcons
  split
  · exact hl
  · exact drop_yes h hl
section
variable {P : Program} {Γ : Glob} {ops : Array Oper} {k mask m' i d : Nat} {held held' held2 : List Held} {hp : Hp} {Φ : Out → Prop} {tm tm' : T SV} {n : Nat} {ms : List Nat} {v : SV} {o : Oper} {rest : List Oper} {res : Option (Nat × List Held × Fr × Hp)} {fs : List Fact}
theorem take_any (hm : Nat.testBit mask i = false) (hdp : Nat.beq (Nat.land (depsOf o) mask) (depsOf o) = true) (hw : wantedQ ops ⟨tm, n, ms⟩ o = some true) (hn : noChg held) (hq : quiet P Γ hp (Fr.ev ⟨tm, n, ms⟩) o.op = some (v, fs)) (hd : o.dst = some d) (hb : Nat.blt d n = true)
    (h : takeAll P Γ ops rest (i + 1) (mask ||| 2 ^ i) (hcons (descOf i ops.toList 0 0) fs held) ⟨tm.set d v, n, ms⟩ hp = res) : takeAll P Γ ops (o :: rest) i mask held ⟨tm, n, ms⟩ hp = res := by
  rw [← h, takeAll, hm, cond_false, hdp, cond_true, hw]
  have e : (⟨hide i held hp.objs, hp.next⟩ : Hp) = hp := by rw [hide_no i held _ hn]
  simp only [e, hq, put_slot hd hb]
  unfold hcons
  cases fs <;> rfl
theorem tpc (v : SV) (k : Nat) {p : SV} {cs : List SV} {t : TypeId} {x : Operand} (hn : noChg held) (w : PtrTo Γ hp p cs) (h : takeAll P Γ ops rest (i + 1) (mask ||| 2 ^ i) (hcons (descOf i ops.toList 0 0) (pfacts p k [v]) held) ⟨tm.set d v, n, ms⟩ hp = res) (hop : o.op = .load t x := by exact rfl) (ha : Fr.ev ⟨tm, n, ms⟩ x = padd p k := by exact rfl) (ht : tyAgg P t = some false := by exact rfl) (hv : cs[k]? = some v := by exact rfl) (hm : Nat.testBit mask i = false := by exact rfl) (hdp : Nat.beq (Nat.land (depsOf o) mask) (depsOf o) = true := by exact rfl) (hw : wantedQ ops ⟨tm, n, ms⟩ o = some true := by exact rfl) (hd : o.dst = some d := by exact rfl) (hb : Nat.blt d n = true := by exact rfl) : takeAll P Γ ops (o :: rest) i mask held ⟨tm, n, ms⟩ hp = res :=
  take_any hm hdp hw hn (by rw [hop]; simp only [quiet, ha]; exact px_cell ht w hv) hd hb h
theorem tpa (vs : List SV) (k : Nat) {p : SV} {cs : List SV} {t : TypeId} {m : Nat} {x : Operand} (hn : noChg held) (w : PtrTo Γ hp p cs) (h : takeAll P Γ ops rest (i + 1) (mask ||| 2 ^ i) (hcons (descOf i ops.toList 0 0) (pfacts p k vs) held) ⟨tm.set d (.agg vs), n, ms⟩ hp = res) (hop : o.op = .load t x := by exact rfl) (ha : Fr.ev ⟨tm, n, ms⟩ x = padd p k := by exact rfl) (ht : tyAgg P t = some true := by exact rfl) (hs : tySize P t = some m := by exact rfl) (hv : cut cs k m = some vs := by exact rfl) (hm : Nat.testBit mask i = false := by exact rfl) (hdp : Nat.beq (Nat.land (depsOf o) mask) (depsOf o) = true := by exact rfl) (hw : wantedQ ops ⟨tm, n, ms⟩ o = some true := by exact rfl) (hd : o.dst = some d := by exact rfl) (hb : Nat.blt d n = true := by exact rfl) : takeAll P Γ ops (o :: rest) i mask held ⟨tm, n, ms⟩ hp = res :=
  take_any hm hdp hw hn (by rw [hop]; simp only [quiet, ha]; exact px_cut ht hs w hv) hd hb h
theorem drawn_cG {f : FuncId} {args : List SV} {fr0 : Fr} {h0 : Hp} (hn : noChg held') (ht : takeAll P Γ ops ops.toList 0 mask held fr0 h0 = some (m', held', ⟨tm', n, ms⟩, hp)) (hr : readyNow m' ops.toList 0 = [(i, o)]) (hw : wantedQ ops ⟨tm', n, ms⟩ o = some true)
    (hc : calleeOf (Fr.ev ⟨tm', n, ms⟩) o.op = some (.fn f args)) (hcl : cloneE P hp f args = none) (hd : o.dst = some d) (hb : Nat.blt d n = true)
    (h : Runs P Γ (.call f args hp) fun r => standsL r.hp i held' = true ∧ ∃ h2, drop i held' = h2 ∧ RunsDrawn P Γ ops k (m' ||| 2 ^ i) h2 ⟨tm'.set d r.v, n, ms⟩ r.hp Φ) :
    RunsDrawn P Γ ops (k + 1) mask held fr0 h0 Φ := by
  have e : (⟨hide i held' hp.objs, hp.next⟩ : Hp) = hp := by rw [hide_no i held' _ hn]
  refine drawn_c ht hr hw hc (by rw [e]; exact hcl) hd hb ?_
  rw [e]
  exact h.mono fun r ⟨h1, h2, h3, h4⟩ => ⟨r.hp.objs, showed_no i _ _ _ _ hn, factsStand_of h1, by rw [h3]; exact h4⟩
end
inductive Tr where
  | mk (x : ND) (ks : List Tr)
def Tr.nd : Tr → ND
  | .mk x _ => x
def Tr.kids : Tr → List Tr
  | .mk _ ks => ks
inductive TreeAt (Γ : Glob) (h : Hp) : SV → Tr → Prop
  | mk {p : SV} {x : ND} {L : SV} {ks : List Tr} (q : Nat → SV) : PtrTo Γ h p (x.cells L) → LenIs L ks.length → (∀ i, i < ks.length → indexAddrQ Tryz.prog 34 L (.lit (.int .i64 (Int.ofNat i))) = some (q i)) → (∀ i t, ks[i]? = some t → TreeAt Γ h (q i) t) → TreeAt Γ h p ⟨x, ks⟩
theorem TreeAt.kept {Γ : Glob} {h H : Hp} (k : Kept h.next h H) {p : SV} {t : Tr} (w : TreeAt Γ h p t) : TreeAt Γ H p t := by
  induction w with
  | mk q h1 h2 h3 _ ih => exact .mk q (h1.kept k) h2 h3 ih
def KidsOf (Γ : Glob) (h : Hp) (L : SV) (ks : List Tr) : Prop := LenIs L ks.length ∧ ∃ q : Nat → SV, (∀ i, i < ks.length → indexAddrQ Tryz.prog 34 L (.lit (.int .i64 (Int.ofNat i))) = some (q i)) ∧ ∀ i t, ks[i]? = some t → TreeAt Γ h (q i) t
theorem KidsOf.kept {Γ : Glob} {h H : Hp} (k : Kept h.next h H) {L : SV} {ks : List Tr} (w : KidsOf Γ h L ks) : KidsOf Γ H L ks := ⟨w.1, w.2.imp fun _ h => ⟨h.1, fun i t ht => (h.2 i t ht).kept k⟩⟩
theorem TreeAt.of {Γ : Glob} {h : Hp} {p L : SV} {x : ND} {ks : List Tr} (w : PtrTo Γ h p (x.cells L)) (hk : KidsOf Γ h L ks) : TreeAt Γ h p ⟨x, ks⟩ := by
  obtain ⟨h1, q, h2, h3⟩ := hk
  exact .mk q w h1 h2 h3
theorem TreeAt.out {Γ : Glob} {h : Hp} {p : SV} {x : ND} {ks : List Tr} (w : TreeAt Γ h p ⟨x, ks⟩) : ∃ L, PtrTo Γ h p (x.cells L) ∧ KidsOf Γ h L ks := by
  cases w with
  | mk q h1 h2 h3 h4 => exact ⟨_, h1, h2, q, h3, h4⟩
def KidsRun (Γ : Glob) (h : Hp) (L : SV) (n : Int) (f : FuncId) (a : Int) (K : Int → Int) (R : Int → Bool) : Prop := ∀ i, 0 ≤ i → i < n → ∃ q z Z, indexAddrQ Tryz.prog 34 L (.lit (.int .i64 i)) = some q ∧ PtrTo Γ h q (ND.cells z Z) ∧ z.k = K i ∧ ∀ H, Kept h.next h H → Runs Tryz.prog Γ (.call f [q, .lit (.int .i64 a)] H) (Tells H (.lit (.bool (R i))))
theorem KidsRun.kept {Γ : Glob} {h H : Hp} {L : SV} {n : Int} {f : FuncId} {a : Int} {K : Int → Int} {R : Int → Bool} (w : KidsRun Γ h L n f a K R) (k : Kept h.next h H) : KidsRun Γ H L n f a K R := fun i h0 h1 => by
  obtain ⟨q, z, Z, a1, a2, a3, a4⟩ := w i h0 h1
  exact ⟨q, z, Z, a1, a2.kept k, a3, fun H' k' => a4 H' (k.then k')⟩
end Go.Proofs.YtcnfmcbmephdfaaGreatDoor.d
namespace Go.Proofs.YtcnfmcbmephdfaaGreatDoor.d
open Go Go.Proofs.YtcnfmcbmephdfaaGreatDoor.Ev Go.Proofs.YtcnfmcbmephdfaaGreatDoor.snap
def Lst (h : Hp) (lo b : Nat) (e : TypeId) (size : Nat) (v : SV) (l : List (List SV)) : Prop :=
  (∀ x ∈ l, x.length = size ∧ x.all SV.one = true) ∧ ((v = .lit (.slice none 0 0) ∧ l = []) ∨ (lo ≤ b ∧ b < h.next ∧ ∃ cs,
    ((∃ c, v = .slice b 0 l.length c ∧ l.length ≤ c ∧ c ≤ 2000000 ∧ h.objs.get b = some (.cells cs e) ∧ cs.length = c * size) ∨ (∃ k, v = .row b 0 l.length k b ∧ l.length ≤ k ∧ h.objs.get b = some (.row cs e k b size) ∧ l.length * size ≤ cs.length)) ∧ cs.take (l.length * size) = l.flatten))
section
variable {h H : Hp} {lo lo' b : Nat} {e : TypeId} {size : Nat} {v : SV} {l : List (List SV)}
theorem Lst.nil (h : Hp) (lo b : Nat) (e : TypeId) (size : Nat) : Lst h lo b e size (.lit (.slice none 0 0)) [] := ⟨fun _ hx => (by cases hx), .inl ⟨rfl, rfl⟩⟩
theorem Lst.same (w : Lst h lo b e size v l) (hn : h.next ≤ H.next) (hg : b < h.next → H.objs.get b = h.objs.get b) : Lst H lo b e size v l := by
  refine ⟨w.1, w.2.imp id fun ⟨a1, a2, cs, a3, a4⟩ => ⟨a1, Nat.lt_of_lt_of_le a2 hn, cs, ?_, a4⟩⟩
  rw [hg a2]
  exact a3
theorem Lst.kept (w : Lst h lo b e size v l) (k : Kept h.next h H) : Lst H lo b e size v l := w.same k.next (k.old b)
theorem Lst.less (w : Lst h lo b e size v l) (hl : lo' ≤ lo) : Lst h lo' b e size v l := ⟨w.1, w.2.imp id fun ⟨a1, a⟩ => ⟨Nat.le_trans hl a1, a⟩⟩
theorem Lst.one (w : Lst h lo b e size v l) : SV.one v = true := by
  rcases w.2 with ⟨rfl, _⟩ | ⟨_, _, _, ⟨_, rfl, _⟩ | ⟨_, rfl, _⟩, _⟩ <;> rfl
theorem Lst.len {P : Program} {h' : Hp} {t e' : TypeId} (ht : tyU P t = some (.slice e')) (hnil : lenQ P h' t (.lit (.slice none 0 0)) = some (.lit (.int .i64 0), [])) (w : Lst h lo b e size v l) : lenQ P h' t v = some (.lit (.int .i64 (l.length : Int)), []) := by
  rcases w.2 with ⟨rfl, rfl⟩ | ⟨_, _, _, ⟨_, rfl, _⟩ | ⟨_, rfl, _⟩, _⟩
  · exact hnil
  · simp only [lenQ, ht]; rfl
  · simp only [lenQ, ht]; rfl
theorem Lst.idx {P : Program} {t : TypeId} {i : Int} (ht : tyU P t = some (.slice e)) (hs : tySize P e = some size) (w : Lst h lo b e size v l) (h0 : 0 ≤ i) (h1 : i < l.length) : indexAddrQ P t v (.lit (.int .i64 i)) = some (.ptr b (i.toNat * size)) := by
  obtain ⟨j, rfl⟩ := Int.eq_ofNat_of_zero_le h0
  have hj : Nat.blt j l.length = true := Nat.ble_eq_true_of_le (by omega)
  rcases w.2 with ⟨rfl, rfl⟩ | ⟨_, _, _, ⟨c, rfl, _⟩ | ⟨k, rfl, _⟩, _⟩
  · simp at h1; omega
  · have := show indexAddrQ P t (.slice b 0 l.length c) (.lit (.int .i64 (Int.ofNat j))) = some (.ptr b (0 + j * size)) by
      simp only [indexAddrQ, ht, hs, idxQ, hj, cond_true]
    rw [Nat.zero_add] at this
    exact this
  · have := show indexAddrQ P t (.row b 0 l.length k b) (.lit (.int .i64 (Int.ofNat j))) = some (.ptr b (0 + j * size)) by
      simp only [indexAddrQ, ht, hs, idxQ, hj, cond_true]
    rw [Nat.zero_add] at this
    exact this
theorem flat_at : ∀ {l : List (List SV)} {j : Nat} {x : List SV}, (∀ y ∈ l, y.length = size) → l[j]? = some x → (l.flatten.drop (j * size)).take size = x ∧ j * size + size ≤ l.flatten.length
  | [], _, _, _, h => by simp at h
  | a :: l, 0, x, hl, h => by
    obtain rfl : a = x := by simpa using h
    have := hl a (List.mem_cons_self ..)
    rw [List.flatten_cons, Nat.zero_mul, List.drop_zero, List.take_append_of_le_length (by omega), ← this, List.take_length, List.length_append]
    exact ⟨rfl, by omega⟩
  | a :: l, j + 1, x, hl, h => by
    have ha := hl a (List.mem_cons_self ..)
    obtain ⟨h1, h2⟩ := flat_at (fun y hy => hl y (List.mem_cons_of_mem _ hy)) (show l[j]? = some x by simpa using h)
    rw [List.flatten_cons, show (j + 1) * size = a.length + j * size by rw [Nat.succ_mul, ha]; omega, List.drop_append, List.length_append]
    simp only [Nat.add_sub_cancel_left, List.drop_eq_nil_of_le (show a.length ≤ a.length + j * size by omega), List.nil_append]
    exact ⟨h1, by omega⟩
theorem flat_size : ∀ {l : List (List SV)}, (∀ y ∈ l, y.length = size) → l.flatten.length = l.length * size
  | [], _ => by simp
  | a :: l, h => by
    rw [List.flatten_cons, List.length_append, h a (List.mem_cons_self ..), flat_size fun y hy => h y (List.mem_cons_of_mem _ hy), List.length_cons, Nat.succ_mul]
    omega
theorem Lst.cut (w : Lst h lo b e size v l) {i : Int} {x : List SV} (_h0 : 0 ≤ i) (hx : l[i.toNat]? = some x) : Win h b (i.toNat * size) x := by
  have hlt : i.toNat < l.length := (List.getElem?_eq_some_iff.1 hx).1
  have hall := fun y hy => (w.1 y hy).1
  obtain ⟨f1, f2⟩ := flat_at hall hx
  have hxl := hall x (List.mem_of_getElem? hx)
  rcases w.2 with ⟨_, rfl⟩ | ⟨a1, a2, cs, a3, a4⟩
  · simp at hx
  · refine ⟨a2, cs, ?_, ?_⟩
    · rcases a3 with ⟨_, _, _, _, hb, _⟩ | ⟨_, _, _, hb, _⟩ <;> simp only [knownCells, hb]
    · rw [flat_size hall] at f2
      rw [cut_spec, hxl]
      have e1 : (cs.drop (i.toNat * size)).take size = x := by
        rw [← f1, ← a4, List.drop_take, List.take_take, Nat.min_eq_left]
        have : i.toNat * size + size ≤ l.length * size := f2
        omega
      exact ⟨e1, by rw [e1]; exact hxl⟩
theorem Lst.take {P : Program} {t : TypeId} {i : Int} (ht : tyU P t = some (.slice e)) (hs : tySize P e = some size) (w : Lst h lo b e size v l) (h0 : 0 ≤ i) (h1 : i < l.length) :
    ∃ v', sliceQ P t v none (some (.lit (.int .i64 i))) none = some v' ∧ Lst h lo b e size v' (l.take i.toNat) := by
  obtain ⟨j, rfl⟩ := Int.eq_ofNat_of_zero_le h0
  have hj : j < l.length := by omega
  have hlen : (l.take j).length = j := by rw [List.length_take]; omega
  have hle : j * size ≤ l.length * size := Nat.mul_le_mul_right _ (by omega)
  have hfl : ∀ cs : List SV, cs.take (l.length * size) = l.flatten → cs.take (j * size) = (l.take j).flatten := fun cs hcs => by
    have e1 : (l.take j).flatten.length = j * size := by rw [flat_size fun y hy => (w.1 y (List.mem_of_mem_take hy)).1, hlen]
    have e2 : l.flatten = (l.take j).flatten ++ (l.drop j).flatten := by rw [← List.flatten_append, List.take_append_drop]
    have e3 : cs.take (j * size) = (cs.take (l.length * size)).take (j * size) := by rw [List.take_take, Nat.min_eq_left hle]
    rw [e3, hcs, e2, ← e1, List.take_left]
  rcases w.2 with ⟨rfl, rfl⟩ | ⟨a1, a2, cs, ⟨c, rfl, c1, c2, hb, hc⟩ | ⟨k, rfl, c1, hb, hc⟩, a4⟩
  · simp at hj
  · refine ⟨.slice b 0 j c, ?_, fun x hx => w.1 x (List.mem_of_mem_take hx), .inr ⟨a1, a2, cs, .inl ⟨c, by rw [Int.toNat_natCast, hlen], by rw [Int.toNat_natCast, hlen]; omega, c2, hb, hc⟩, by rw [Int.toNat_natCast, hlen]; exact hfl cs a4⟩⟩
    have hb2 : boundQ (some (.lit (.int .i64 (Int.ofNat j)))) l.length c = some j := by
      simp only [boundQ, Nat.ble_eq_true_of_le (show j ≤ c by omega), cond_true]
    have hb3 : boundQ none 0 j = some 0 := rfl
    show sliceQ P t (.slice b 0 l.length c) none (some (.lit (.int .i64 (Int.ofNat j)))) none = _
    simp only [sliceQ, ht, hs, hb2, hb3, Nat.zero_mul, Nat.sub_zero]
    cases Nat.beq c 0 <;> rfl
  · refine ⟨.row b 0 j k b, ?_, fun x hx => w.1 x (List.mem_of_mem_take hx), .inr ⟨a1, a2, cs, .inr ⟨k, by rw [Int.toNat_natCast, hlen], by rw [Int.toNat_natCast, hlen]; omega, hb, by rw [Int.toNat_natCast, hlen]; omega⟩, by rw [Int.toNat_natCast, hlen]; exact hfl cs a4⟩⟩
    have hb2 : boundQ (some (.lit (.int .i64 (Int.ofNat j)))) l.length k = some j := by
      simp only [boundQ, Nat.ble_eq_true_of_le (show j ≤ k by omega), cond_true]
    have hb3 : boundQ none 0 j = some 0 := rfl
    show sliceQ P t (.row b 0 l.length k b) none (some (.lit (.int .i64 (Int.ofNat j)))) none = _
    simp only [sliceQ, ht, hs, hb2, hb3, show Nat.blt 0 k = true from Nat.ble_eq_true_of_le (by omega), cond_true, Nat.zero_mul, Nat.sub_zero]
theorem Lst.push {P : Program} {Γ : Glob} {st : TypeId} {nb : Nat} {i : TypeInfo} {z : Value} {c : List SV} (hst : tyU P st = some (.slice e)) (hi : P.info? e = some i) (hz : i.zero = some z) (hby : i.bytes ≤ 1000) (hsz : 0 < size) (his : i.size = size) (hzs : (SV.cells (.lit z)).length = size)
    (w : Lst h lo b e size v l) (hc : c.length = size) (hone : c.all SV.one = true) (hn : l.length ≤ 1900000) (hlo : lo ≤ h.next) (hnb : h.objs.get nb = some (.cells c e)) (_hne : nb ≠ b) :
    ∃ v' h' b', appendE P Γ h [st, st] v (.slice nb 0 1 1) = some (v', h') ∧ Lst h' lo b' e size v' (l ++ [c]) ∧ h.next ≤ h'.next ∧ (b' = b ∨ b' = h.next) ∧ ∀ x, x < h.next → x ≠ b → h'.objs.get x = h.objs.get x := by
  subst his
  have hcut : Ev.cut c 0 i.size = some c := by rw [← hc]; exact cut_whole c
  have hsrc : srcCells Γ h i.size (.slice nb 0 1 1) = some (c, 1) := by
    simp only [srcCells, readCells, knownCells, hnb, Option.bind_some, Nat.one_mul, hcut]
  have hcond : (Nat.ble i.bytes 1000 && Nat.ble 1 2000000 && Nat.blt 0 i.size && Nat.beq (SV.cells (.lit z)).length i.size && Nat.beq c.length (1 * i.size)) = true := by
    rw [Nat.ble_eq_true_of_le hby, show Nat.blt 0 i.size = true from Nat.ble_eq_true_of_le hsz, beq_t hzs, beq_t (show c.length = 1 * i.size by omega)]
    rfl
  have hall := fun y hy => (w.1 y hy).1
  have hfs := flat_size hall
  have hnew : ∀ x ∈ l ++ [c], x.length = i.size ∧ x.all SV.one = true := fun x hx => by
    rcases List.mem_append.1 hx with hx | hx
    · exact w.1 x hx
    · rw [List.mem_singleton.1 hx]; exact ⟨hc, hone⟩
  have hlen : (l ++ [c]).length = l.length + 1 := by rw [List.length_append, List.length_singleton]
  have hfl : (l ++ [c]).flatten = l.flatten ++ c := by rw [List.flatten_append, List.flatten_singleton]
  have hmul : (l.length + 1) * i.size = l.flatten.length + c.length := by rw [Nat.succ_mul, hfs, hc]
  have htk : (l.flatten ++ c).take ((l.length + 1) * i.size) = l.flatten ++ c := by rw [hmul, ← List.length_append, List.take_length]
  have hrow : Lst ⟨h.objs.set h.next (.row (l.flatten ++ c) e (l.length + 1) h.next i.size), h.next + 1⟩ lo h.next e i.size (.row h.next 0 (l.length + 1) (l.length + 1) h.next) (l ++ [c]) :=
    ⟨hnew, .inr ⟨hlo, Nat.lt_succ_self _, _, .inr ⟨_, by rw [hlen], by rw [hlen]; exact Nat.le_refl _, get_same, by rw [hlen, List.length_append, hmul]; exact Nat.le_refl _⟩, by rw [hlen, htk, hfl]⟩⟩
  rcases w.2 with ⟨rfl, rfl⟩ | ⟨a1, a2, cs, ⟨k, rfl, c1, c2, hb, hcs⟩ | ⟨k, rfl, c1, hb, hcs⟩, a4⟩
  · refine ⟨_, _, h.next, ?_, hrow, Nat.le_succ _, .inr rfl, fun x hx _ => get_ne (Nat.ne_of_lt hx)⟩
    simp only [appendE, hst, hi, hz, hsrc, isIntD, cond_false, hcond, cond_true, beq_f (show (1 : Nat) ≠ 0 by decide), newRowE]
    rfl
  · by_cases hroom : l.length + 1 ≤ k
    · have hsp : splice cs (0 + l.length * i.size) c = some (cs.take (l.length * i.size) ++ c ++ cs.drop (l.length * i.size + c.length)) := by
        have : (l.length + 1) * i.size ≤ k * i.size := Nat.mul_le_mul_right _ hroom
        rw [Nat.succ_mul] at this
        simp only [splice, Nat.zero_add, hone, Nat.ble_eq_true_of_le (show l.length * i.size + c.length ≤ cs.length by omega), Bool.and_self, cond_true]
      refine ⟨.slice b 0 (l.length + 1) k, h.upd b (.cells (cs.take (l.length * i.size) ++ c ++ cs.drop (l.length * i.size + c.length)) e), b, ?_, ⟨hnew, .inr ⟨a1, a2, _, .inl ⟨k, by rw [hlen], by rw [hlen]; exact hroom, c2, get_same, ?_⟩, ?_⟩⟩, Nat.le_refl _, .inl rfl, fun x _ hx => get_ne hx⟩
      · simp only [appendE, hst, hi, hz, hsrc, isIntD, cond_false, hcond, cond_true, Nat.ble_eq_true_of_le c2, Nat.ble_eq_true_of_le c1, Bool.and_self, Nat.ble_eq_true_of_le hroom, hb, hsp, Option.map_some, Hp.upd]
      · have : (l.length + 1) * i.size ≤ k * i.size := Nat.mul_le_mul_right _ hroom
        rw [Nat.succ_mul] at this
        simp only [List.length_append, List.length_take, List.length_drop]
        omega
      · have e1 : (cs.take (l.length * i.size) ++ c).length = (l ++ [c]).length * i.size := by
          have : (l.length + 1) * i.size ≤ k * i.size := Nat.mul_le_mul_right _ hroom
          rw [Nat.succ_mul] at this
          rw [hlen, List.length_append, List.length_take, Nat.succ_mul, hc, Nat.min_eq_left (by omega)]
        rw [← e1, List.take_left, a4, hfl]
    · have hread : readCells Γ h (.ptr b 0) (l.length * i.size) = some (l.flatten, [.cells b 0 l.flatten]) := by
        have : Ev.cut cs 0 (l.length * i.size) = some l.flatten := cut_spec.2 ⟨by rw [List.drop_zero, a4], by rw [List.drop_zero, a4, hfs]⟩
        simp only [readCells, knownCells, hb, Option.bind_some, this]
      have hno : Nat.ble (l.length + 1) k = false := by
        cases hh : Nat.ble (l.length + 1) k with
        | false => rfl
        | true => exact absurd (Nat.le_of_ble_eq_true hh) hroom
      refine ⟨_, _, h.next, ?_, hrow, Nat.le_succ _, .inr rfl, fun x hx _ => get_ne (Nat.ne_of_lt hx)⟩
      simp only [appendE, hst, hi, hz, hsrc, isIntD, cond_false, hcond, cond_true, Nat.ble_eq_true_of_le c2, Nat.ble_eq_true_of_le c1, Bool.and_self, hno, hread, newRowE]
  · refine ⟨_, ⟨(h.objs.put b none).set h.next (.row (l.flatten ++ c) e (l.length + 1) h.next i.size), h.next + 1⟩, h.next, ?_, hrow.same (Nat.le_refl _) fun _ => ?_, Nat.le_succ _, .inr rfl, fun x hx hxb => (get_ne (Nat.ne_of_lt hx)).trans (by rw [T.get_put, if_neg hxb])⟩
    · simp only [appendE, hst, hi, hz, hsrc, isIntD, cond_false, hcond, cond_true, Nat.ble_eq_true_of_le (show l.length ≤ 2000000 by omega), hb, beq_t rfl, Nat.ble_eq_true_of_le c1, Nat.ble_eq_true_of_le hcs, hone, beq_f (show (1 : Nat) ≠ 0 by decide), Bool.and_self, a4, newRowE]
    · show ((h.objs.put b none).set h.next _).get h.next = (h.objs.set h.next _).get h.next
      rw [get_same, get_same]
end
end Go.Proofs.YtcnfmcbmephdfaaGreatDoor.d
namespace Go.Proofs.YtcnfmcbmephdfaaGreatDoor.d
open Go Go.Proofs.YtcnfmcbmephdfaaGreatDoor.Ev Go.Proofs.YtcnfmcbmephdfaaGreatDoor.snap
theorem one_int (k : IntKind) (a : Int) : SV.one (.lit (.int k a)) = true := rfl
theorem one_bool (a : Bool) : SV.one (.lit (.bool a)) = true := rfl
theorem one_txt (a : ByteArray) : SV.one (.lit (.string a)) = true := rfl
theorem one_ptr (a b : Nat) : SV.one (.ptr a b) = true := rfl
theorem one_nils (a b : Nat) : SV.one (.lit (.slice none a b)) = true := rfl
theorem one_nilp : SV.one (.lit (.pointer none)) = true := rfl
theorem splice_all {l vs : List SV} {off : Nat} (hl : off + vs.length ≤ l.length) (ho : vs.all SV.one = true) : splice l off vs = some (l.take off ++ vs ++ l.drop (off + vs.length)) := by
  simp only [splice, Nat.ble_eq_true_of_le hl, ho, Bool.and_self, cond_true]
def LL {α : Type} (h : Hp) (lo b : Nat) (e : TypeId) (size : Nat) (v : SV) (enc : α → List SV) (L : List α) : Prop := Lst h lo b e size v (L.map enc)
def lget {α : Type} [Inhabited α] (L : List α) (i : Int) : α := (L[i.toNat]?).getD default
def InfoOk (P : Program) (e : TypeId) (size : Nat) : Prop := ∃ i z, P.info? e = some i ∧ i.zero = some z ∧ i.size = size ∧ i.bytes ≤ 1000 ∧ (SV.cells (.lit z)).length = size
def Off (v : SV) (b x : Nat) : Prop := v = .lit (.slice none 0 0) ∨ x ≠ b
section
variable {α : Type} {h H : Hp} {lo lo' b : Nat} {e : TypeId} {size : Nat} {v : SV} {enc : α → List SV} {L : List α}
theorem LL.nil (h : Hp) (lo b : Nat) (e : TypeId) (size : Nat) (enc : α → List SV) : LL h lo b e size (.lit (.slice none 0 0)) enc [] := Lst.nil h lo b e size
theorem LL.kept (w : LL h lo b e size v enc L) (k : Kept h.next h H) : LL H lo b e size v enc L := Lst.kept w k
theorem LL.less (w : LL h lo b e size v enc L) (hl : lo' ≤ lo) : LL h lo' b e size v enc L := Lst.less w hl
theorem LL.one (w : LL h lo b e size v enc L) : SV.one v = true := Lst.one w
theorem LL.off (w : LL h lo b e size v enc L) {x : Nat} (hx : x < lo ∨ h.next ≤ x) : Off v b x := by
  rcases w.2 with ⟨h1, _⟩ | ⟨h1, h2, _⟩
  · exact .inl h1
  · exact .inr (by omega)
theorem LL.other (w : LL h lo b e size v enc L) {x : Nat} (ho : Off v b x) (j : ∀ c, c ≠ x → H.objs.get c = h.objs.get c) (n : H.next = h.next) : LL H lo b e size v enc L := by
  rcases ho with ho | ho
  · refine ⟨w.1, .inl ⟨ho, ?_⟩⟩
    rcases w.2 with ⟨_, h2⟩ | ⟨_, _, _, ⟨_, h2, _⟩ | ⟨_, h2, _⟩, _⟩
    · exact h2
    · rw [ho] at h2; cases h2
    · rw [ho] at h2; cases h2
  · exact Lst.same w (by omega) fun _ => j _ (Ne.symm ho)
theorem LL.of1 {x : α} {cs : List SV} (a : At h b (.cells cs e)) (hx : cs = enc x) (hs : cs.length = size) (hone : cs.all SV.one = true) (hlo : lo ≤ b) : LL h lo b e size (.slice b 0 1 1) enc [x] := by
  refine ⟨fun y hy => ?_, .inr ⟨hlo, a.lt, cs, .inl ⟨1, rfl, Nat.le_refl _, by decide, a.get, by omega⟩, ?_⟩⟩
  · obtain rfl : y = enc x := by simpa using hy
    rw [← hx]; exact ⟨hs, hone⟩
  · show cs.take (1 * size) = [enc x].flatten
    rw [Nat.one_mul, ← hs, List.take_length, List.flatten_singleton, hx]
theorem LL.len {P : Program} {h' : Hp} {t e' : TypeId} (ht : tyU P t = some (.slice e')) (hnil : lenQ P h' t (.lit (.slice none 0 0)) = some (.lit (.int .i64 0), [])) (w : LL h lo b e size v enc L) : lenQ P h' t v = some (.lit (.int .i64 (L.length : Int)), []) := by
  have := Lst.len ht hnil w
  rwa [List.length_map] at this
theorem LL.idx {P : Program} {t : TypeId} {i : Int} (ht : tyU P t = some (.slice e)) (hs : tySize P e = some size) (w : LL h lo b e size v enc L) (h0 : 0 ≤ i) (h1 : i < L.length) : indexAddrQ P t v (.lit (.int .i64 i)) = some (.ptr b (i.toNat * size)) :=
  Lst.idx ht hs w h0 (by rw [List.length_map]; exact h1)
theorem LL.win [Inhabited α] (w : LL h lo b e size v enc L) {i : Int} (h0 : 0 ≤ i) (h1 : i < L.length) : Win h b (i.toNat * size) (enc (lget L i)) := by
  refine Lst.cut w h0 ?_
  have hi : i.toNat < L.length := by omega
  simp only [lget, List.getElem?_map, List.getElem?_eq_getElem hi, Option.map_some, Option.getD_some]
theorem LL.take {P : Program} {t : TypeId} {i : Int} (ht : tyU P t = some (.slice e)) (hs : tySize P e = some size) (w : LL h lo b e size v enc L) (h0 : 0 ≤ i) (h1 : i < L.length) :
    ∃ v', sliceQ P t v none (some (.lit (.int .i64 i))) none = some v' ∧ LL h lo b e size v' enc (L.take i.toNat) := by
  obtain ⟨v', a1, a2⟩ := Lst.take ht hs w h0 (by rw [List.length_map]; exact h1)
  exact ⟨v', a1, by unfold LL; rw [List.map_take]; exact a2⟩
theorem LL.off_take (w : LL h lo b e size v enc L) (hl : 0 < (L.length : Int)) {v' : SV} {x : Nat} (o : Off v b x) : Off v' b x := .inr (o.resolve_left fun hn => by
  rcases w.2 with ⟨_, h2⟩ | ⟨_, _, _, ⟨_, h2, _⟩ | ⟨_, h2, _⟩, _⟩
  · have : L = [] := List.map_eq_nil_iff.1 h2
    rw [this] at hl
    simp at hl
  · rw [hn] at h2; cases h2
  · rw [hn] at h2; cases h2)
theorem LL.push {P : Program} {Γ : Glob} {st : TypeId} {nb : Nat} {x : α} {c : List SV} (hst : tyU P st = some (.slice e)) (hi : InfoOk P e size) (hsz : 0 < size) (w : LL h lo b e size v enc L) (hx : c = enc x) (hc : c.length = size) (hone : c.all SV.one = true) (hn : L.length ≤ 1900000) (hlo : lo ≤ h.next) (hnb : h.objs.get nb = some (.cells c e)) (hne : Off v b nb) :
    ∃ v' h' b', appendE P Γ h [st, st] v (.slice nb 0 1 1) = some (v', h') ∧ LL h' lo b' e size v' enc (L ++ [x]) ∧ h.next ≤ h'.next ∧ (∀ y, y < h.next → Off v b y → h'.objs.get y = h.objs.get y) ∧ (∀ y, y < h.next → Off v b y → Off v' b' y) ∧ Kept lo h h' := by
  obtain ⟨i, z, hi, hz, hsz2, hby, hzs⟩ := hi
  have hlast : ∀ {b' : Nat} {v' : SV} {h' : Hp}, Lst h' lo b' e size v' (L.map enc ++ [c]) → LL h' lo b' e size v' enc (L ++ [x]) := fun hl => by
    unfold LL
    rw [List.map_append, ← show [c] = [x].map enc by rw [hx]; rfl]
    exact hl
  by_cases hnil : v = .lit (.slice none 0 0)
  · have w0 : Lst h lo h.next e size v (L.map enc) := by
      refine ⟨w.1, .inl ⟨hnil, ?_⟩⟩
      rcases w.2 with ⟨_, h2⟩ | ⟨_, _, _, ⟨_, h2, _⟩ | ⟨_, h2, _⟩, _⟩
      · exact h2
      · rw [hnil] at h2; cases h2
      · rw [hnil] at h2; cases h2
    by_cases hnn : nb = h.next
    · subst hnn
      have w1 : Lst h lo (h.next + 1) e size v (L.map enc) := ⟨w0.1, .inl (by
        rcases w0.2 with h1 | ⟨_, h2, _⟩
        · exact h1
        · exact absurd h2 (Nat.lt_irrefl _))⟩
      obtain ⟨v', h', b', a1, a2, a3, a4, a5⟩ := Lst.push (Γ := Γ) hst hi hz hby hsz hsz2 hzs w1 hc hone (by rw [List.length_map]; omega) hlo hnb (by omega)
      refine ⟨v', h', b', a1, hlast a2, a3, fun y hy _ => a5 y hy (by omega), fun y hy _ => .inr ?_, a3, fun y hy => a5 y (by omega) (by omega)⟩
      rcases a4 with rfl | rfl <;> omega
    · obtain ⟨v', h', b', a1, a2, a3, a4, a5⟩ := Lst.push (Γ := Γ) hst hi hz hby hsz hsz2 hzs w0 hc hone (by rw [List.length_map]; omega) hlo hnb hnn
      refine ⟨v', h', b', a1, hlast a2, a3, fun y hy _ => a5 y hy (by omega), fun y hy _ => .inr ?_, a3, fun y hy => a5 y (by omega) (by omega)⟩
      rcases a4 with rfl | rfl <;> omega
  · have hnb' : nb ≠ b := hne.resolve_left hnil
    obtain ⟨v', h', b', a1, a2, a3, a4, a5⟩ := Lst.push (Γ := Γ) hst hi hz hby hsz hsz2 hzs w hc hone (by rw [List.length_map]; omega) hlo hnb hnb'
    have hb : lo ≤ b := by
      rcases w.2 with ⟨h1, _⟩ | ⟨h1, _⟩
      · exact absurd h1 hnil
      · exact h1
    refine ⟨v', h', b', a1, hlast a2, a3, fun y hy ho => a5 y hy (ho.resolve_left hnil), fun y hy ho => .inr ?_, a3, fun y hy => a5 y (by omega) (by omega)⟩
    have := ho.resolve_left hnil
    rcases a4 with rfl | rfl <;> omega
end
section
variable {P : Program} {Γ : Glob} {ops : Array Oper} {o : Oper} {r : List Oper} {tm : T SV} {n d : Nat} {ms : List Nat} {hp : Hp} {Φ : Out → Prop} {α : Type} {lo b nb : Nat} {e st : TypeId} {size : Nat} {v : SV} {enc : α → List SV} {L : List α} {x : α} {c : List SV} {xa xb : Operand}
end
theorem _root_.Go.Proofs.YtcnfmcbmephdfaaGreatDoor.snap.At.off {h H : Hp} {b : Nat} {o : AObj} (a : At h b o) (n : h.next ≤ H.next) (j : H.objs.get b = h.objs.get b) : At H b o := ⟨Nat.lt_of_lt_of_le a.lt n, j.trans a.get⟩
end Go.Proofs.YtcnfmcbmephdfaaGreatDoor.d
namespace Go.Proofs.YtcnfmcbmephdfaaGreatDoor.d
open Go Go.Proofs.YtcnfmcbmephdfaaGreatDoor.Ev Go.Proofs.YtcnfmcbmephdfaaGreatDoor.snap
section
variable {P : Program} {Γ : Glob} {ops : Array Oper} {k mask m' i d : Nat} {held held' : List Held} {hp h2 : Hp} {Φ : Out → Prop} {tm' : T SV} {n : Nat} {ms : List Nat} {v : SV} {o : Oper} {fr0 : Fr} {h0 : Hp}
theorem drawn_effG (hn : noChg held') (ht : takeAll P Γ ops ops.toList 0 mask held fr0 h0 = some (m', held', ⟨tm', n, ms⟩, hp)) (hr : readyNow m' ops.toList 0 = [(i, o)]) (hw : wantedQ ops ⟨tm', n, ms⟩ o = some true)
    (hc : calleeOf (Fr.ev ⟨tm', n, ms⟩) o.op = none) (he : effect P Γ hp (Fr.ev ⟨tm', n, ms⟩) o.op = some [(v, h2)]) (hx : hp.next ≤ h2.next) (hd : o.dst = some d) (hb : Nat.blt d n = true)
    (h : standsL h2 i held' = true ∧ ∃ h3, drop i held' = h3 ∧ RunsDrawn P Γ ops k (m' ||| 2 ^ i) h3 ⟨tm'.set d v, n, ms⟩ h2 Φ) : RunsDrawn P Γ ops (k + 1) mask held fr0 h0 Φ := by
  have e : (⟨hide i held' hp.objs, hp.next⟩ : Hp) = hp := by rw [hide_no i held' _ hn]
  obtain ⟨h1, h3, rfl, h4⟩ := h
  exact drawn_effect ht hr hw hc (by rw [e]; exact he) hx (showed_no i _ _ _ _ hn) (put_slot hd hb) (factsStand_of h1) h4
theorem drawn_bsl {t e : TypeId} {m : Nat} {parts : Array (Nat × Operand)} {cs : List SV} (h1 : o.op = .buildSlice t m parts) (hn : noChg held') (ht : takeAll P Γ ops ops.toList 0 mask held fr0 h0 = some (m', held', ⟨tm', n, ms⟩, hp)) (hr : readyNow m' ops.toList 0 = [(i, o)]) (hw : wantedQ ops ⟨tm', n, ms⟩ o = some true)
    (hbs : buildSliceE P hp t m (parts.toList.map fun p => (p.1, Fr.ev ⟨tm', n, ms⟩ p.2)) = some (.slice hp.next 0 m m, ⟨hp.objs.set hp.next (.cells cs e), hp.next + 1⟩)) (hd : o.dst = some d) (hb : Nat.blt d n = true)
    (kk : ∀ H, At H hp.next (.cells cs e) → Kept hp.next hp H → H.next = hp.next + 1 → standsL H i held' = true ∧ ∃ h3, drop i held' = h3 ∧ RunsDrawn P Γ ops k (m' ||| 2 ^ i) h3 ⟨tm'.set d (.slice hp.next 0 m m), n, ms⟩ H Φ) : RunsDrawn P Γ ops (k + 1) mask held fr0 h0 Φ := by
  refine drawn_effG (v := .slice hp.next 0 m m) (h2 := ⟨hp.objs.set hp.next (.cells cs e), hp.next + 1⟩) hn ht hr hw (by rw [h1]; rfl) (by rw [h1]; exact congrArg Ev.val hbs) (Nat.le_succ _) hd hb ?_
  exact kk _ ⟨Nat.lt_succ_self _, get_same⟩ ⟨Nat.le_succ _, fun b hb => get_ne (Nat.ne_of_lt hb)⟩ rfl
theorem drawn_push {α : Type} {lo b nb : Nat} {e st : TypeId} {size : Nat} {enc : α → List SV} {L : List α} {x : α} {c : List SV} {xa xb : Operand} (hi : InfoOk P e size) (hst : tyU P st = some (.slice e)) (hsz : 0 < size) (h1 : o.op = .call ⟨.builtin .append, #[xa, xb], #[st, st]⟩)
    (hn : noChg held') (ht : takeAll P Γ ops ops.toList 0 mask held fr0 h0 = some (m', held', ⟨tm', n, ms⟩, hp)) (hr : readyNow m' ops.toList 0 = [(i, o)]) (hw : wantedQ ops ⟨tm', n, ms⟩ o = some true) (ha : Fr.ev ⟨tm', n, ms⟩ xa = v) (hb : Fr.ev ⟨tm', n, ms⟩ xb = .slice nb 0 1 1) (hd : o.dst = some d) (hbl : Nat.blt d n = true)
    (w : LL hp lo b e size v enc L) (a : At hp nb (.cells c e)) (hx : c = enc x) (hc : c.length = size) (hone : c.all SV.one = true) (hl : L.length ≤ 1900000) (hlo : lo ≤ hp.next) (hne : Off v b nb)
    (kk : ∀ v' H b', LL H lo b' e size v' enc (L ++ [x]) → hp.next ≤ H.next → (∀ y, y < hp.next → Off v b y → H.objs.get y = hp.objs.get y) → (∀ y, y < hp.next → Off v b y → Off v' b' y) → Kept lo hp H → standsL H i held' = true ∧ ∃ h3, drop i held' = h3 ∧ RunsDrawn P Γ ops k (m' ||| 2 ^ i) h3 ⟨tm'.set d v', n, ms⟩ H Φ) : RunsDrawn P Γ ops (k + 1) mask held fr0 h0 Φ := by
  obtain ⟨v', h', b', a1, a2, a3, a4, a5, a6⟩ := LL.push (Γ := Γ) hst hi hsz w hx hc hone hl hlo a.get hne
  refine drawn_effG (v := v') (h2 := h') hn ht hr hw (by rw [h1]; rfl) ?_ a3 hd hbl (kk v' h' b' a2 a3 a4 a5 a6)
  rw [h1]
  show Ev.val (appendE P Γ hp [st, st] (Fr.ev ⟨tm', n, ms⟩ xa) (Fr.ev ⟨tm', n, ms⟩ xb)) = _
  rw [ha, hb, a1]
  rfl
end
theorem PtrTo.one {Γ : Glob} {h : Hp} {p : SV} {cs : List SV} (w : PtrTo Γ h p cs) : SV.one p = true := w.cases (C := fun p => SV.one p = true) (fun _ _ => rfl) fun _ _ => rfl
theorem TreeAt.one {Γ : Glob} {h : Hp} {p : SV} {t : Tr} (w : TreeAt Γ h p t) : SV.one p = true := by
  cases w with
  | mk q h1 => exact h1.one
mutual
def Tr.size : Tr → Nat
  | .mk _ ks => 1 + sizeL ks
def sizeL : List Tr → Nat
  | [] => 0
  | t :: ts => t.size + sizeL ts
end
theorem sizeL_append : ∀ (a b : List Tr), sizeL (a ++ b) = sizeL a + sizeL b
  | [], b => by simp [sizeL]
  | t :: a, b => by rw [List.cons_append, sizeL, sizeL, sizeL_append a b]; omega
theorem len_sizeL : ∀ (a : List Tr), a.length ≤ sizeL a
  | [] => Nat.zero_le _
  | .mk x ks :: a => by
    have := len_sizeL a
    rw [sizeL, Tr.size, List.length_cons]
    omega
end Go.Proofs.YtcnfmcbmephdfaaGreatDoor.d
