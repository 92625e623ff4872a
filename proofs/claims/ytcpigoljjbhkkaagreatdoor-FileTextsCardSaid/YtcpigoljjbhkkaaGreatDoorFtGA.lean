/-
  FIRST FACTS ON THE PROGRAM. No condition. | 'strings.Builder' (1): 'copyCheck' of a fresh one, 'String' of one that holds something, by the author of this claim, in the kit's walk (after the kit's own contracts of these functions). | 'strings.Builder' (2): what WriteString and WriteByte come to where the bytes that are there are known, in the calculus of runs, by the author of this claim. | 'strings.Builder' (3): WriteString and WriteByte, of a fresh builder and of one that holds something, in the calculus of runs, by the author of this claim. | 'strings.Builder' (4): its methods as words of the oracle, where what is written are texts that have names, by the author of this claim. | 'strings.Builder' (5): the words on a builder that holds something, and on String, by the author of this claim. | THE ORACLE OF 'counterpanelaw33.FileTexts' RUNS: texts that are built, joined, cut, replaced and read, by tables; by the author of this claim.
-/
import Derived.Test.YtcpigoljjbhkkaaGreatDoorEvGE
import Derived.Test.YtcpigoljjbhkkaaGreatDoorEvGH
import Derived.Test.YtcpigoljjbhkkaaGreatDoorProg
import Derived.KernelRfl
import Derived.WalkKit
import Derived.Deep.RegionLaw
import Derived.Lib.Builder
import Derived.Lib.UnsafeStr
import Derived.Lib.AppendZerosOnto
import Derived.Lib.Walk
import Derived.Laws.Externs
namespace Go.Proofs.YtcpigoljjbhkkaaGreatDoor.ft
open Go Go.RowKit Go.Proofs.YtcpigoljjbhkkaaGreatDoor.Ev

theorem noCount : NoCount Tryz.prog := noCount_of (by kernel_rfl)
theorem mixed : Tryz.prog.follows .mixedOrders = true := by kernel_rfl

section
variable {Γ : Env} {X : Nat → Prop} {w0 : World} {θ : Ev.Ren} {K : Nat → Prop} {hp : Hp} {w : World}
/-- A block that is looked at otherwise. -/
theorem view {b : Nat} {o o' : AObj} (hr : Rep Γ X w0 θ K hp w) (hb : hp.objs.get b = some o) (hok : o'.ok K) (hO : ∀ ob, ORep θ o ob → ORep θ o' ob) : Rep Γ X w0 θ K ⟨hp.objs.set b o', hp.next⟩ w := by
  have get : ∀ b1 o1, (hp.objs.set b o').get b1 = some o1 → (b1 = b ∧ o1 = o') ∨ (b1 ≠ b ∧ hp.objs.get b1 = some o1) := fun b1 o1 h => by
    rw [T.get_set] at h
    by_cases e : b1 = b
    · rw [if_pos e] at h; exact .inl ⟨e, (Option.some.inj h).symm⟩
    · rw [if_neg e] at h; exact .inr ⟨e, h⟩
  have there : ∀ b1 o1, (hp.objs.set b o').get b1 = some o1 → ∃ o2, hp.objs.get b1 = some o2 := fun b1 o1 h => by
    rcases get b1 o1 h with ⟨rfl, _⟩ | ⟨_, h⟩
    · exact ⟨_, hb⟩
    · exact ⟨_, h⟩
  refine ⟨hr.os, hr.tape, hr.output, hr.size, hr.kept, hr.low, hr.glob, fun b1 o1 h1 => ?_, fun b1 b2 o1 o2 h1 h2 e => ?_, hr.next, hr.inv⟩
  · rcases get b1 o1 h1 with ⟨rfl, rfl⟩ | ⟨_, h⟩
    · obtain ⟨k1, k2, _, ob, k4, k5⟩ := hr.obj b1 o hb
      exact ⟨k1, k2, hok, ob, k4, hO ob k5⟩
    · exact hr.obj b1 o1 h
  · obtain ⟨o3, h3⟩ := there b1 o1 h1
    obtain ⟨o4, h4⟩ := there b2 o2 h2
    exact hr.inj b1 b2 o3 o4 h3 h4 e
theorem toPlain (hr : Rep Γ X w0 θ K hp w) : Rep (.plain .leaf) X w0 θ K hp w := ⟨hr.os, hr.tape, hr.output, hr.size, hr.kept, hr.low, fun g cs h => (by cases h), hr.obj, hr.inj, hr.next, trivial⟩
theorem ofPlain {hp' : Hp} {w' : World} {θ' : Ev.Ren} {K' : Nat → Prop} {n n' : Nat} (hr0 : Rep Γ X w0 θ K hp w) (hr : Rep (.plain .leaf) X w0 θ' K' hp' w') (hG : Grow K θ n K' θ' n') : Rep Γ X w0 θ' K' hp' w' :=
  ⟨hr.os, hr.tape, hr.output, hr.size, hr.kept, hr.low, hr0.glob, hr.obj, hr.inj, hr.next, Γ.ext hr0.inv hG.ext hG.mono⟩
theorem callsIn_of {mem : Oracle} (hmem : OracleOk Tryz.prog (.plain .leaf) mem) {f : FuncId} {args : List SV} {Φ : Out → Prop} (h : O.Runs Tryz.prog .leaf mem (.call f args hp) Φ) (hr : Rep (.plain .leaf) X w0 θ K hp w) (hok : SV.okL K args) {Q : Ending → World → Prop}
    (hQ : ∀ o, Φ o → ∀ θ' K' w', Grow K θ hp.next K' θ' o.hp.next → o.v.ok K' → Rep (.plain .leaf) X w0 θ' K' o.hp w' → Q (.returned (conc θ' o.v)) w') : CallsIn Fence.wide 0 Tryz.prog f (concL θ args).toArray w Q := by
  obtain ⟨n, outs, h1, h2⟩ := h
  have hs := ((runO_sound (Γ := .plain .leaf) noCount mixed hmem n).1.call f args hp outs (h1 n (Nat.le_refl _))).2 X w0 θ K w hr hok
  refine CallsIn.mono (F := Fence.wide) (n := 0) hs fun en w' hp' => ?_
  obtain ⟨o, ho, θ', K', hG, rfl, hv, hr'⟩ := hp'
  exact hQ o (h2 o ho) θ' K' w' hG hv hr'
end
end Go.Proofs.YtcpigoljjbhkkaaGreatDoor.ft
namespace Go.Proofs.YtcpigoljjbhkkaaGreatDoor.ft
open Go Go.RowKit Go.Proofs.YtcpigoljjbhkkaaGreatDoor.Ev

set_option maxHeartbeats 1000000 in
set_option maxRecDepth 100000 in
theorem cc_calls (b : Nat) (w : World) (v : Value) (fr : Nat × Nat) (hb : w.heap[b]? = some (.cells #[.pointer none, v] 79 fr)) (hfr : frOk fr 2) :
    Calls Tryz.prog 54 #[.pointer (some ⟨b, 0, none⟩)] w fun q w' => q = .returned (.tuple #[]) ∧ w' = setB w b (.cells #[.pointer (some ⟨b, 0, none⟩), v] 79 fr) := by
  have h0 : w.cell? ⟨b, 0, none⟩ = some (.pointer none) := by simp [World.cell?, hb]
  have hsh : w.shape? b = some (79, 2) := by simp [World.shape?, hb]
  have hfz : w.frozen? ⟨b, 0, none⟩ = false := by
    have := hfr.at 0 (by omega)
    simp only [World.frozen?, hb]
    simpa using this
  have hset : w.setCell ⟨b, 0, none⟩ (.pointer (some ⟨b, 0, none⟩)) = setB w b (.cells #[.pointer (some ⟨b, 0, none⟩), v] 79 fr) := by
    rw [setCell_setB hb]
    rfl
  obtain ⟨j, hj, hjs⟩ : ∃ j, Tryz.prog.info? 79 = some j ∧ j.size = 2 := ⟨_, rfl, rfl⟩
  have hlies : liesAt Tryz.prog Tryz.prog.depth 79 (2 / Tryz.prog.cellsOf 79) 0 79 1 = true := by kernel_rfl
  have hp1 : Tryz.prog.underlying 76 = some (.pointer 79) := by kernel_rfl
  have hp2 : Tryz.prog.underlying 191 = some .unsafePointer := by kernel_rfl
  go_enter Tryz.func54, Tryz.ntmps54
  go_wp2
  rw [Lib.run_to_unsafe w ⟨b, 0, none⟩ hp1 hp2 hj (by rw [hjs]; decide) hsh (Nat.zero_lt_succ 1)]
  simp only [Result.andThen]
  rw [Oper.upon_value]
  go_wp2
  rw [run_callFunc_extern Tryz.func97 (by kernel_rfl) (by kernel_rfl) (by kernel_rfl) (e := Extern.AbiNoEscape.same) (by kernel_rfl)]
  rw [Lib.run_noEscape]
  simp only [Result.andThen]
  rw [Oper.upon_value]
  go_wp2
  rw [Lib.run_from_unsafe w ⟨b, 0, none⟩ hp2 hp1 hj hsh hlies]
  simp only [Result.andThen]
  rw [Oper.upon_value]
  go_wp2
  go_end0
  first | exact ⟨rfl, rfl⟩ | exact ⟨rfl, hset⟩

set_option maxHeartbeats 1000000 in
set_option maxRecDepth 100000 in
theorem str_calls (b g cap : Nat) (p : Value) (l : List UInt8) (cur : List Value) (w : World) (fr fr2 : Nat × Nat) (h0 : l ≠ []) (hlc : l.length ≤ cap) (hln : l.length ≤ 1000000) (hb : w.heap[b]? = some (.cells #[p, .slice (some ⟨g, 0, none⟩) l.length cap] 79 fr)) (hg : w.heap[g]? = some (.cells cur.toArray 5 fr2)) (hlen : l.length ≤ cur.length)
    (hcell : ∀ (j : Nat) (x : UInt8), l[j]? = some x → cur[j]? = some (Value.int .u8 x.toNat)) :
    Calls Tryz.prog 31 #[.pointer (some ⟨b, 0, none⟩)] w fun q w' => q = .returned (.string ⟨l.toArray⟩) ∧ w' = w.drew.freeze ⟨g, 0, none⟩ l.length := by
  have hl0 : l.length ≠ 0 := by simpa using h0
  have c1 : w.drew.cell? ⟨b, 1, none⟩ = some (.slice (some ⟨g, 0, none⟩) l.length cap) := by
    have : w.drew.heap[b]? = some (.cells #[p, .slice (some ⟨g, 0, none⟩) l.length cap] 79 fr) := hb
    simp [World.cell?, this]
  have hSD : (Builtin.unsafeSliceData_ #[77] 163 #[.slice (some ⟨g, 0, none⟩) l.length cap]).run Tryz.prog w.drew = .ok (.pointer (some ⟨g, 0, none⟩)) w.drew :=
    Lib.run_unsafeSliceData_row _ _ _ _ _ _ (by omega)
  have hg' : w.drew.heap[g]? = some (.cells cur.toArray 5 fr2) := hg
  have hUS : (Builtin.unsafeString_ #[163, 3] 9 #[.pointer (some ⟨g, 0, none⟩), .int .i64 l.length]).run Tryz.prog w.drew = .ok (.string ⟨l.toArray⟩) (w.drew.freeze ⟨g, 0, none⟩ l.length) := by
    refine Lib.run_unsafeString_row w.drew 163 3 9 5 (by kernel_rfl) (by kernel_rfl) g cur.length (by simp [World.shape?, hg']) l h0 hlen (by omega) ?_
    intro j x hx
    have := hcell j x hx
    rw [add_none, Nat.zero_add]
    simp [World.cell?, hg', this]
  go_enter Tryz.func31, Tryz.ntmps31
  go_wp2
  go_region
  all_goals (go_wp2; go_ret; exact ⟨rfl, rfl⟩)

/-- A block is looked at no more. -/
theorem Rep.forget {Γ : Env} {X : Nat → Prop} {w0 : World} {θ : Go.Proofs.YtcpigoljjbhkkaaGreatDoor.Ev.Ren} {K : Nat → Prop} {hp : Hp} {w w' : World} {g : Nat} {o : AObj} (hr : Rep Γ X w0 θ K hp w) (hg : hp.objs.get g = some o) (h1 : w'.os = w.os) (h2 : w'.tape = w.tape) (h3 : w'.output = w.output) (h4 : w'.heap.size = w.heap.size) (h5 : ∀ k, k ≠ θ.blk g → w'.heap[k]? = w.heap[k]?) :
    Rep Γ X w0 θ K ⟨hp.objs.put g none, hp.next⟩ w' := by
  have hX := (hr.obj g o hg).2.1
  have get : ∀ b o1, (hp.objs.put g none).get b = some o1 → b ≠ g ∧ hp.objs.get b = some o1 := fun b o1 h => by
    rw [T.get_put] at h
    by_cases e : b = g
    · rw [if_pos e] at h; cases h
    · rw [if_neg e] at h; exact ⟨e, h⟩
  refine ⟨h1.trans hr.os, h2.trans hr.tape, h3.trans hr.output, by rw [h4]; exact hr.size, fun k hk => (h5 k fun e => hX (e ▸ hk)).trans (hr.kept k hk), hr.low, hr.glob, fun b o1 hb => ?_, fun b1 b2 o1 o2 g1 g2 e => hr.inj b1 b2 o1 o2 (get _ _ g1).2 (get _ _ g2).2 e, hr.next, hr.inv⟩
  obtain ⟨hne, hb⟩ := get b o1 hb
  obtain ⟨k1, k2, k3, ob, k4, k5⟩ := hr.obj b o1 hb
  exact ⟨k1, k2, k3, ob, (h5 _ fun e => hne (hr.inj _ _ _ _ hb hg e)).trans k4, k5⟩

def ccW (args : List SV) (hp : Hp) : R :=
  match args with
  | [.ptr b 0] => match hp.objs.get b with
    | some (.cells [.lit (.pointer none), v] e) => bif Nat.beq e 79 && SV.one v then some [⟨.ret, ⟨.leaf, 0, []⟩, hp.upd b (.cells [.ptr b 0, v] e), .lit (.tuple #[])⟩] else none
    | _ => none
  | _ => none
theorem ccOk {Γ : Env} {args : List SV} {hp : Hp} {outs : List Out} (h : ccW args hp = some outs) {X : Nat → Prop} {w0 : World} {θ : Go.Proofs.YtcpigoljjbhkkaaGreatDoor.Ev.Ren} {K : Nat → Prop} {w : World} (hr : Rep Γ X w0 θ K hp w) :
    CallsIn Fence.wide 0 Tryz.prog 54 (concL θ args).toArray w (CPost Γ X w0 θ K hp.next outs) := by
  unfold ccW at h
  split at h
  · rename_i b
    split at h
    · rename_i v e hb
      cases hc : (Nat.beq e 79 && SV.one v) with
      | false => rw [hc] at h; cases h
      | true =>
        rw [hc, cond_true] at h
        simp only [Bool.and_eq_true] at hc
        obtain rfl := Nat.eq_of_beq_eq_true hc.1
        obtain rfl := Option.some.inj h
        obtain ⟨k1, k2, k3, ob, k4, fr, rfl, k6⟩ := hr.obj b _ hb
        refine callsIn_wide.2 ((cc_calls (θ.blk b) w (conc θ v) fr k4 k6).mono ?_)
        rintro q w' ⟨rfl, rfl⟩
        exact ⟨_, List.mem_singleton_self _, θ, K, Grow.refl _ _ _, rfl, trivial, hr.turn hb ⟨k1, k3.2.1, trivial⟩ ⟨fr, rfl, k6⟩⟩
    · cases h
  · cases h

end Go.Proofs.YtcpigoljjbhkkaaGreatDoor.ft
namespace Go.Proofs.YtcpigoljjbhkkaaGreatDoor.ft
open Go Go.RowKit Go.Proofs.YtcpigoljjbhkkaaGreatDoor.Ev

set_option maxRecDepth 100000
/-- Bytes as cells. -/
def bySV (l : List UInt8) : List SV := l.map fun b => .lit (.int .u8 b.toNat)
@[simp] theorem bySV_len (l : List UInt8) : (bySV l).length = l.length := by simp [bySV]
theorem bySV_append (l m : List UInt8) : bySV (l ++ m) = bySV l ++ bySV m := by simp [bySV]
theorem bySV_one (l : List UInt8) : (bySV l).all SV.one = true := by simp [bySV, SV.one]
/-- The words in these runs: a fresh builder is marked. -/
def ccMem : Oracle := fun f args hp => bif Nat.beq f 54 then ccW args hp else none
theorem ccMemOk (Γ : Env) : OracleOk Tryz.prog Γ ccMem := by
  intro f args hp outs h
  unfold ccMem at h
  cases hb : Nat.beq f 54 with
  | false => rw [hb, cond_false] at h; cases h
  | true =>
    obtain rfl : f = 54 := eq_of_beq hb
    rw [hb, cond_true] at h
    exact ⟨⟨_, _, Tryz.func54, rfl⟩, fun X w0 θ K w hr _ => ccOk h hr⟩

theorem load_cellB {h : Hp} {t : TypeId} {b k : Nat} {cs : List SV} {e : TypeId} {v : SV} (ht : tyAgg Tryz.prog t = some false) (hb : h.objs.get b = some (.cells cs e)) (hv : cs[k]? = some v) : loadQ Tryz.prog .leaf h t (.ptr b k) = some (v, [.cells b k [v]]) := by
  have hlt : k < cs.length := (List.getElem?_eq_some_iff.1 hv).1
  have hc : cut cs k 1 = some [v] := by
    unfold cut
    rw [show (cs.drop k).take 1 = [v] by rw [List.take_one, List.head?_drop, hv]; rfl]
    rfl
  simp only [loadQ, ht, readCells, knownCells, hb, Option.bind_some, hc]
theorem infoU8 : ∃ i, Tryz.prog.info? 5 = some i ∧ i.zero = some (.int .u8 0) ∧ i.size = 1 ∧ i.bytes = 1 := ⟨_, rfl, rfl, rfl, rfl⟩
theorem nat_ble {a b : Nat} (h : a ≤ b) : Nat.ble a b = true := Nat.ble_eq_true_of_le h
theorem nat_blt {a b : Nat} (h : a < b) : Nat.blt a b = true := by simpa [Nat.blt_eq] using h
theorem nat_beq0 {a : Nat} (h : a ≠ 0) : Nat.beq a 0 = false := by
  cases hb : Nat.beq a 0 with
  | false => rfl
  | true => exact absurd (Nat.eq_of_beq_eq_true hb) h

/-- Bytes behind those of a row. -/
theorem app_row {h : Hp} {xt : TypeId} {x : SV} {rb cv n m : Nat} {l news : List SV} (hx : (tyU Tryz.prog xt).map isIntD = some false) (hsrc : srcCells .leaf h 1 x = some (news, m)) (hm0 : m ≠ 0) (hm : m ≤ 1000000) (hnl : news.length = m) (hone : news.all SV.one = true)
    (hr : h.objs.get rb = some (.row l 5 n cv 1)) (hl : l.length = n) (hn : n ≤ 1000000) :
    appendE Tryz.prog .leaf h [77, xt] (.row rb 0 n n cv) x = some (newRowE ⟨h.objs.put rb none, h.next⟩ (l ++ news) 5 (n + m) 1) := by
  obtain ⟨xd, hxd, hxi⟩ := Option.map_eq_some_iff.1 hx
  obtain ⟨i, hi, hz, hs, hb⟩ := infoU8
  have hu : tyU Tryz.prog 77 = some (.slice 5) := rfl
  have hzl : (SV.cells (.lit (.int .u8 0))).length = 1 := rfl
  simp only [appendE, hu, hxd, hxi, cond_false, hi, hz, hs, hb, hsrc, hr, hzl, hnl, hone, Nat.mul_one, hl, nat_ble (show 1 ≤ 1000 by omega), nat_ble (show m ≤ 2000000 by omega), nat_ble (show n ≤ 2000000 by omega), nat_ble (Nat.le_refl n), nat_blt (show 0 < 1 by omega), Nat.beq_refl, Bool.and_self, cond_true, nat_beq0 hm0]
  rw [List.take_of_length_le (by omega)]
/-- Bytes where there were none. -/
theorem app_nil {h : Hp} {xt : TypeId} {x : SV} {m : Nat} {news : List SV} (hx : (tyU Tryz.prog xt).map isIntD = some false) (hsrc : srcCells .leaf h 1 x = some (news, m)) (hm0 : m ≠ 0) (hm : m ≤ 1000000) (hnl : news.length = m) :
    appendE Tryz.prog .leaf h [77, xt] (.lit (.slice none 0 0)) x = some (newRowE h news 5 m 1) := by
  obtain ⟨xd, hxd, hxi⟩ := Option.map_eq_some_iff.1 hx
  obtain ⟨i, hi, hz, hs, hb⟩ := infoU8
  have hu : tyU Tryz.prog 77 = some (.slice 5) := rfl
  have hzl : (SV.cells (.lit (.int .u8 0))).length = 1 := rfl
  simp only [appendE, hu, hxd, hxi, cond_false, hi, hz, hs, hb, hsrc, hzl, hnl, Nat.mul_one, nat_ble (show 1 ≤ 1000 by omega), nat_ble (show m ≤ 2000000 by omega), nat_blt (show 0 < 1 by omega), Nat.beq_refl, Bool.and_self, cond_true, cond_false, nat_beq0 hm0]
theorem src_str (h : Hp) (s : List UInt8) : srcCells .leaf h 1 (.lit (.string ⟨⟨s⟩⟩)) = some (bySV s, s.length) := rfl
theorem src_byte {h : Hp} {nb : Nat} {c : SV} (hb : h.objs.get nb = some (.cells [c] 5)) : srcCells .leaf h 1 (.slice nb 0 1 1) = some ([c], 1) := by
  simp only [srcCells, readCells, knownCells, hb, Option.bind_some]
  rfl

/-- An oracle that tells 'copyCheck' alone of a builder's methods. -/
class CcMem (mem : Oracle) : Prop where
  cc : mem 54 = ccW
  ws : mem 20 = fun _ _ => none
  wb : mem 22 = fun _ _ => none
instance : CcMem ccMem := ⟨rfl, rfl, rfl⟩
/-- 'copyCheck' of a builder that is marked. -/
theorem cc_used {mem : Oracle} [CcMem mem] {h : Hp} {b : Nat} {v : SV} (hb : h.objs.get b = some (.cells [.ptr b 0, v] 79)) : O.Runs Tryz.prog .leaf mem (.call 54 [.ptr b 0] h) fun o => o.v = .tuple [] ∧ o.hp = h := by
  have hm : mem 54 [.ptr b 0] h = none := by
    rw [CcMem.cc (mem := mem)]
    simp only [ccW, hb]
  refine O.runs_call Tryz.func54 rfl ?_ hm
  refine O.runs_seq (O.runs_region ?_)
  refine O.ops_q (v := .ptr b 0) (fs := []) rfl rfl rfl rfl ?_
  refine O.ops_q (v := .ptr b 0) (fs := []) rfl rfl rfl rfl ?_
  refine O.ops_q (v := .ptr b 0) (fs := []) rfl rfl rfl rfl ?_
  refine O.ops_q (v := .ptr b 0) (fs := [.cells b 0 [.ptr b 0]]) rfl (by simp only [quiet, ev_set]; exact load_cellB rfl hb rfl) rfl rfl ?_
  refine O.ops_q (v := .lit (.bool false)) (fs := []) rfl rfl rfl rfl ?_
  refine O.ops_nil ?_
  refine O.runs_cond false rfl ?_
  refine O.runs_seq (O.runs_region ?_)
  refine O.ops_q (v := .ptr b 0) (fs := []) rfl rfl rfl rfl ?_
  refine O.ops_q (v := .ptr b 0) (fs := []) rfl rfl rfl rfl ?_
  refine O.ops_q (v := .ptr b 0) (fs := []) rfl rfl rfl rfl ?_
  refine O.ops_q (v := .ptr b 0) (fs := [.cells b 0 [.ptr b 0]]) rfl (by simp only [quiet, ev_set]; exact load_cellB rfl hb rfl) rfl rfl ?_
  refine O.ops_q (v := .ptr b 0) (fs := []) rfl rfl rfl rfl ?_
  refine O.ops_q (v := .lit (.bool false)) (fs := []) rfl (by
    have hq : refEq Tryz.prog 76 (.ptr b 0) (.ptr b 0) = some true := by
      show (match some (TypeDesc.pointer 79), SV.ptr b 0, SV.ptr b 0 with | _, _, _ => _) = _
      simp only [refEq, show tyU Tryz.prog 76 = some (.pointer 79) from rfl, show tySize Tryz.prog 79 = some 2 from rfl, Nat.beq_refl, cond_true]
    simp only [quiet, ev_set]
    show one (binQ Tryz.prog .neq 76 _ _ (.ptr b 0) (.ptr b 0)) = _
    simp only [binQ, SV.toLit, hq]
    rfl) rfl rfl ?_
  refine O.ops_nil ?_
  refine O.runs_cond false rfl (O.runs_skip ?_)
  exact ⟨_, rfl, rfl, rfl⟩
/-- 'copyCheck' of a fresh one. -/
theorem cc_fresh {mem : Oracle} [CcMem mem] {h : Hp} {b : Nat} {v : SV} (hv : SV.one v = true) (hb : h.objs.get b = some (.cells [.lit (.pointer none), v] 79)) :
    O.Runs Tryz.prog .leaf mem (.call 54 [.ptr b 0] h) fun o => o.v = .lit (.tuple #[]) ∧ o.hp = h.upd b (.cells [.ptr b 0, v] 79) := by
  refine O.runs_told (outs := [⟨.ret, ⟨.leaf, 0, []⟩, h.upd b (.cells [.ptr b 0, v] 79), .lit (.tuple #[])⟩]) ?_ fun o ho => ?_
  · rw [CcMem.cc (mem := mem)]
    simp only [ccW, hb, Nat.beq_refl, hv, Bool.and_self, cond_true]
  · obtain rfl := List.mem_singleton.1 ho
    exact ⟨rfl, rfl⟩
end Go.Proofs.YtcpigoljjbhkkaaGreatDoor.ft
namespace Go.Proofs.YtcpigoljjbhkkaaGreatDoor.ft
open Go Go.RowKit Go.Proofs.YtcpigoljjbhkkaaGreatDoor.Ev

set_option maxRecDepth 100000
theorem clone_none {P : Program} {h : Hp} {f : FuncId} {args : List SV} {fn : Func} (hf : P.funcs[f]? = some fn) (hb : fn.body.isNone = false) : cloneE P h f args = none := by
  unfold cloneE
  split
  · rename_i fn' t b hfn
    rw [hf] at hfn
    obtain rfl := Option.some.inj hfn
    rw [hb]
    rfl
  · rfl
theorem store1 {h : Hp} {b off : Nat} {v old : SV} {l l' : List SV} {e : TypeId} (hv : SV.one v = true) (hb : h.objs.get b = some (.cells l e)) (hl : off < l.length) (hl' : l' = l.take off ++ [v] ++ l.drop (off + 1)) {t : TypeId} (ht : tySize Tryz.prog t = some 1) (_ : l[off]? = some old) :
    storeE Tryz.prog h t (.ptr b off) v = some (h.upd b (.cells l' e)) := by
  have hc : v.cells = [v] := by
    cases v <;> first | rfl | (cases hv; done) | skip
    rename_i u
    cases u <;> first | rfl | cases hv
  simp only [storeE, ht, hc, hb, List.length_singleton, Nat.beq_refl, cond_true, splice, nat_ble (show off + 1 ≤ l.length by omega), List.all_cons, List.all_nil, hv, Bool.and_self, Option.map_some, hl']

/-- The memory behind bytes that are put behind those of a row. -/
def putHp (h : Hp) (b : Nat) (l : List SV) (n : Nat) (old : Option Nat) : Hp :=
  ⟨((match old with
    | some rb => h.objs.put rb none
    | none => h.objs).set h.next (.row l 5 n h.next 1)).set b (.cells [.ptr b 0, .row h.next 0 n n h.next] 79), h.next + 1⟩

theorem get_put_ne {t : T AObj} {a b : Nat} {o : Option AObj} (h : a ≠ b) : (t.put b o).get a = t.get a := by rw [T.get_put, if_neg h]
theorem get_set_ne {t : T AObj} {a b : Nat} {o : AObj} (h : a ≠ b) : (t.set b o).get a = t.get a := by rw [T.get_set, if_neg h]
theorem get_set_eq {t : T AObj} {a : Nat} {o : AObj} : (t.set a o).get a = some o := by rw [T.get_set, if_pos rfl]

theorem ws_used {mem : Oracle} [CcMem mem] {h : Hp} {b rb cv n : Nat} {l : List SV} {s : List UInt8} (hb : h.objs.get b = some (.cells [.ptr b 0, .row rb 0 n n cv] 79)) (hr : h.objs.get rb = some (.row l 5 n cv 1)) (hne : b ≠ rb) (hlt : b < h.next) (hl : l.length = n) (hn : n ≤ 1000000) (hs0 : s ≠ []) (hs : s.length ≤ 1000000) :
    O.Runs Tryz.prog .leaf mem (.call 20 [.ptr b 0, .lit (.string ⟨⟨s⟩⟩)] h) fun o => o.v = .tuple [.lit (.int .i64 s.length), .lit .nilIface] ∧ o.hp = putHp h b (l ++ bySV s) (n + s.length) (some rb) := by
  have hm0 : s.length ≠ 0 := by simpa using hs0
  have happ := app_row (xt := 9) (h := h) (x := .lit (.string ⟨⟨s⟩⟩)) rfl (src_str h s) hm0 hs (bySV_len s) (bySV_one s) hr hl hn
  have hb2 : ((h.objs.put rb none).set h.next (.row (l ++ bySV s) 5 (n + s.length) h.next 1)).get b = some (.cells [.ptr b 0, .row rb 0 n n cv] 79) := by
    rw [get_set_ne (by omega), get_put_ne hne]; exact hb
  have hle : h.next ≤ h.next + 1 := by omega
  refine O.runs_call Tryz.func20 rfl ?_ (by rw [CcMem.ws (mem := mem)])
  refine O.runs_seq (O.runs_region ?_)
  refine O.ops_q (v := .lit (.int .i64 0)) (fs := []) rfl rfl rfl rfl ?_
  refine O.ops_q (v := .lit .nilIface) (fs := []) rfl rfl rfl rfl ?_
  refine O.ops_nil ?_
  refine O.runs_seq (O.runs_region ?_)
  refine O.ops_q (v := .ptr b 0) (fs := []) rfl rfl rfl rfl ?_
  refine O.ops_c (f := 54) (args := [.ptr b 0]) rfl rfl rfl (clone_none Tryz.func54 rfl) rfl rfl ?_
  refine (cc_used hb).mono ?_
  rintro ⟨ex1, fr1, h1, v1⟩ ⟨hv1, hh1⟩
  have hh1 : h1 = h := hh1
  subst hh1
  refine O.ops_nil ?_
  refine O.runs_seq (O.runs_region ?_)
  refine O.ops_q (v := .ptr b 0) (fs := []) rfl rfl rfl rfl ?_
  refine O.ops_q (v := .ptr b 0) (fs := []) rfl rfl rfl rfl ?_
  refine O.ops_q (v := .ptr b 0) (fs := []) rfl rfl rfl rfl ?_
  refine O.ops_q (v := .ptr b 1) (fs := []) rfl rfl rfl rfl ?_
  refine O.ops_q (v := .row rb 0 n n cv) (fs := [.cells b 1 [.row rb 0 n n cv]]) rfl (by simp only [quiet, ev_set]; exact load_cellB rfl hb rfl) rfl rfl ?_
  refine O.ops_q (v := .lit (.string ⟨⟨s⟩⟩)) (fs := []) rfl rfl rfl rfl ?_
  refine O.ops_e (v := .row h1.next 0 (n + s.length) (n + s.length) h1.next) (hp' := ⟨(h1.objs.put rb none).set h1.next (.row (l ++ bySV s) 5 (n + s.length) h1.next 1), h1.next + 1⟩) rfl rfl rfl (congrArg val happ) hle rfl rfl ?_
  refine O.ops_q (v := .ptr b 0) (fs := []) rfl rfl rfl rfl ?_
  refine O.ops_q (v := .ptr b 1) (fs := []) rfl rfl rfl rfl ?_
  refine O.ops_e0 (v := .lit undef) (hp' := putHp h1 b (l ++ bySV s) (n + s.length) (some rb)) rfl rfl rfl (by
    show unit (storeE Tryz.prog ⟨(h1.objs.put rb none).set h1.next (.row (l ++ bySV s) 5 (n + s.length) h1.next 1), h1.next + 1⟩ 77 (.ptr b 1) (.row h1.next 0 (n + s.length) (n + s.length) h1.next)) = _
    rw [store1 (old := .row rb 0 n n cv) (l' := [.ptr b 0, .row h1.next 0 (n + s.length) (n + s.length) h1.next]) rfl hb2 (by simp) rfl rfl rfl]
    rfl) (Nat.le_refl _) rfl ?_
  refine O.ops_nil ?_
  refine O.runs_seq (O.runs_region ?_)
  refine O.ops_q (v := .lit (.string ⟨⟨s⟩⟩)) (fs := []) rfl rfl rfl rfl ?_
  refine O.ops_q (v := .lit (.int .i64 s.length)) (fs := []) rfl rfl rfl rfl ?_
  refine O.ops_q (v := .lit (.int .i64 s.length)) (fs := []) rfl rfl rfl rfl ?_
  refine O.ops_q (v := .lit .nilIface) (fs := []) rfl rfl rfl rfl ?_
  refine O.ops_nil ?_
  exact O.runs_ret ⟨_, rfl, rfl, rfl⟩
theorem ws_fresh {mem : Oracle} [CcMem mem] {h : Hp} {b : Nat} {s : List UInt8} (hb : h.objs.get b = some (.cells [.lit (.pointer none), .lit (.slice none 0 0)] 79)) (hlt : b < h.next) (hs0 : s ≠ []) (hs : s.length ≤ 1000000) :
    O.Runs Tryz.prog .leaf mem (.call 20 [.ptr b 0, .lit (.string ⟨⟨s⟩⟩)] h) fun o => o.v = .tuple [.lit (.int .i64 s.length), .lit .nilIface] ∧ o.hp = putHp (h.upd b (.cells [.ptr b 0, .lit (.slice none 0 0)] 79)) b (bySV s) s.length none := by
  have hb1 : (h.upd b (.cells [.ptr b 0, .lit (.slice none 0 0)] 79)).objs.get b = some (.cells [.ptr b 0, .lit (.slice none 0 0)] 79) := get_set_eq
  obtain ⟨h1, hh⟩ : ∃ h1, h1 = h.upd b (.cells [.ptr b 0, .lit (.slice none 0 0)] 79) := ⟨_, rfl⟩
  have hn1 : h1.next = h.next := by rw [hh]; rfl
  rw [← hh] at hb1 ⊢
  have hm0 : s.length ≠ 0 := by simpa using hs0
  have happ := app_nil (xt := 9) (h := h1) (x := .lit (.string ⟨⟨s⟩⟩)) rfl (src_str h1 s) hm0 hs (bySV_len s)
  have hb2 : (h1.objs.set h1.next (.row (bySV s) 5 s.length h1.next 1)).get b = some (.cells [.ptr b 0, .lit (.slice none 0 0)] 79) := by
    rw [get_set_ne (by omega)]; exact hb1
  have hle : h1.next ≤ h1.next + 1 := by omega
  refine O.runs_call Tryz.func20 rfl ?_ (by rw [CcMem.ws (mem := mem)])
  refine O.runs_seq (O.runs_region ?_)
  refine O.ops_q (v := .lit (.int .i64 0)) (fs := []) rfl rfl rfl rfl ?_
  refine O.ops_q (v := .lit .nilIface) (fs := []) rfl rfl rfl rfl ?_
  refine O.ops_nil ?_
  refine O.runs_seq (O.runs_region ?_)
  refine O.ops_q (v := .ptr b 0) (fs := []) rfl rfl rfl rfl ?_
  refine O.ops_c (f := 54) (args := [.ptr b 0]) rfl rfl rfl (clone_none Tryz.func54 rfl) rfl rfl ?_
  refine (cc_fresh rfl hb).mono ?_
  rintro ⟨ex1, fr1, h2, v1⟩ ⟨hv1, hh1⟩
  have hh1 : h2 = h1 := hh1.trans hh.symm
  subst hh1
  refine O.ops_nil ?_
  refine O.runs_seq (O.runs_region ?_)
  refine O.ops_q (v := .ptr b 0) (fs := []) rfl rfl rfl rfl ?_
  refine O.ops_q (v := .ptr b 0) (fs := []) rfl rfl rfl rfl ?_
  refine O.ops_q (v := .ptr b 0) (fs := []) rfl rfl rfl rfl ?_
  refine O.ops_q (v := .ptr b 1) (fs := []) rfl rfl rfl rfl ?_
  refine O.ops_q (v := .lit (.slice none 0 0)) (fs := [.cells b 1 [.lit (.slice none 0 0)]]) rfl (by simp only [quiet, ev_set]; exact load_cellB rfl hb1 rfl) rfl rfl ?_
  refine O.ops_q (v := .lit (.string ⟨⟨s⟩⟩)) (fs := []) rfl rfl rfl rfl ?_
  refine O.ops_e (v := .row h2.next 0 s.length s.length h2.next) (hp' := ⟨(h2.objs).set h2.next (.row (bySV s) 5 s.length h2.next 1), h2.next + 1⟩) rfl rfl rfl (congrArg val happ) hle rfl rfl ?_
  refine O.ops_q (v := .ptr b 0) (fs := []) rfl rfl rfl rfl ?_
  refine O.ops_q (v := .ptr b 1) (fs := []) rfl rfl rfl rfl ?_
  refine O.ops_e0 (v := .lit undef) (hp' := putHp h2 b (bySV s) s.length none) rfl rfl rfl (by
    show unit (storeE Tryz.prog ⟨(h2.objs).set h2.next (.row (bySV s) 5 s.length h2.next 1), h2.next + 1⟩ 77 (.ptr b 1) (.row h2.next 0 s.length s.length h2.next)) = _
    rw [store1 (old := .lit (.slice none 0 0)) (l' := [.ptr b 0, .row h2.next 0 s.length s.length h2.next]) rfl hb2 (by simp) rfl rfl rfl]
    rfl) (Nat.le_refl _) rfl ?_
  refine O.ops_nil ?_
  refine O.runs_seq (O.runs_region ?_)
  refine O.ops_q (v := .lit (.string ⟨⟨s⟩⟩)) (fs := []) rfl rfl rfl rfl ?_
  refine O.ops_q (v := .lit (.int .i64 s.length)) (fs := []) rfl rfl rfl rfl ?_
  refine O.ops_q (v := .lit (.int .i64 s.length)) (fs := []) rfl rfl rfl rfl ?_
  refine O.ops_q (v := .lit .nilIface) (fs := []) rfl rfl rfl rfl ?_
  refine O.ops_nil ?_
  exact O.runs_ret ⟨_, rfl, rfl, rfl⟩
theorem wb_used {mem : Oracle} [CcMem mem] {h : Hp} {b rb cv n : Nat} {l : List SV} {c : UInt8} (hb : h.objs.get b = some (.cells [.ptr b 0, .row rb 0 n n cv] 79)) (hr : h.objs.get rb = some (.row l 5 n cv 1)) (hne : b ≠ rb) (hlt : b < h.next) (hlr : rb < h.next) (hl : l.length = n) (hn : n ≤ 1000000) :
    O.Runs Tryz.prog .leaf mem (.call 22 [.ptr b 0, .lit (.int .u8 c.toNat)] h) fun o => o.v = .lit .nilIface ∧ o.hp = putHp ⟨h.objs.set h.next (.cells (bySV [c]) 5), h.next + 1⟩ b (l ++ bySV [c]) (n + 1) (some rb) := by
  have hg : ∀ k, k < h.next → (h.objs.set h.next (.cells (bySV [c]) 5)).get k = h.objs.get k := fun k hk => get_set_ne (by omega)
  have happ := app_row (xt := 77) (h := ⟨h.objs.set h.next (.cells (bySV [c]) 5), h.next + 1⟩) (x := .slice h.next 0 1 1) (m := 1) (news := bySV [c]) rfl (src_byte get_set_eq) (by decide) (by decide) (bySV_len [c]) (bySV_one [c]) ((hg rb hlr).trans hr) hl hn
  obtain ⟨h2, hh2⟩ : ∃ h2 : Hp, h2 = ⟨h.objs.set h.next (.cells (bySV [c]) 5), h.next + 1⟩ := ⟨_, rfl⟩
  have hn2 : h2.next = h.next + 1 := by rw [hh2]
  have hbb : h2.objs.get b = some (.cells [.ptr b 0, .row rb 0 n n cv] 79) := by rw [hh2]; exact (hg b hlt).trans hb
  rw [← hh2] at happ ⊢
  have hb2 : ((h2.objs.put rb none).set h2.next (.row (l ++ bySV [c]) 5 (n + 1) h2.next 1)).get b = some (.cells [.ptr b 0, .row rb 0 n n cv] 79) := by
    rw [get_set_ne (by omega), get_put_ne hne]; exact hbb
  have hle : h2.next ≤ h2.next + 1 := by omega
  have hle0 : h.next ≤ h2.next := by omega
  refine O.runs_call Tryz.func22 rfl ?_ (by rw [CcMem.wb (mem := mem)])
  refine O.runs_seq (O.runs_region ?_)
  refine O.ops_q (v := .lit .nilIface) (fs := []) rfl rfl rfl rfl ?_
  refine O.ops_nil ?_
  refine O.runs_seq (O.runs_region ?_)
  refine O.ops_q (v := .ptr b 0) (fs := []) rfl rfl rfl rfl ?_
  refine O.ops_c (f := 54) (args := [.ptr b 0]) rfl rfl rfl (clone_none Tryz.func54 rfl) rfl rfl ?_
  refine (cc_used hb).mono ?_
  rintro ⟨ex1, fr1, h1, v1⟩ ⟨hv1, hh1⟩
  have hh1 : h1 = h := hh1
  subst hh1
  refine O.ops_nil ?_
  refine O.runs_seq (O.runs_region ?_)
  refine O.ops_q (v := .ptr b 0) (fs := []) rfl rfl rfl rfl ?_
  refine O.ops_q (v := .ptr b 0) (fs := []) rfl rfl rfl rfl ?_
  refine O.ops_q (v := .ptr b 0) (fs := []) rfl rfl rfl rfl ?_
  refine O.ops_q (v := .ptr b 1) (fs := []) rfl rfl rfl rfl ?_
  refine O.ops_q (v := .row rb 0 n n cv) (fs := [.cells b 1 [.row rb 0 n n cv]]) rfl (by simp only [quiet, ev_set]; exact load_cellB rfl hb rfl) rfl rfl ?_
  refine O.ops_q (v := .lit (.int .u8 c.toNat)) (fs := []) rfl rfl rfl rfl ?_
  refine O.ops_e (v := .slice h1.next 0 1 1) (hp' := h2) rfl rfl rfl (by rw [hh2]; rfl) hle0 rfl rfl ?_
  refine O.ops_e (v := .row h2.next 0 (n + 1) (n + 1) h2.next) (hp' := ⟨(h2.objs.put rb none).set h2.next (.row (l ++ bySV [c]) 5 (n + 1) h2.next 1), h2.next + 1⟩) rfl rfl rfl (congrArg val happ) hle rfl rfl ?_
  refine O.ops_q (v := .ptr b 0) (fs := []) rfl rfl rfl rfl ?_
  refine O.ops_q (v := .ptr b 1) (fs := []) rfl rfl rfl rfl ?_
  refine O.ops_e0 (v := .lit undef) (hp' := putHp h2 b (l ++ bySV [c]) (n + 1) (some rb)) rfl rfl rfl (by
    show unit (storeE Tryz.prog ⟨(h2.objs.put rb none).set h2.next (.row (l ++ bySV [c]) 5 (n + 1) h2.next 1), h2.next + 1⟩ 77 (.ptr b 1) (.row h2.next 0 (n + 1) (n + 1) h2.next)) = _
    rw [store1 (old := .row rb 0 n n cv) (l' := [.ptr b 0, .row h2.next 0 (n + 1) (n + 1) h2.next]) rfl hb2 (by simp) rfl rfl rfl]
    rfl) (Nat.le_refl _) rfl ?_
  refine O.ops_nil ?_
  refine O.runs_seq (O.runs_region ?_)
  refine O.ops_q (v := .lit .nilIface) (fs := []) rfl rfl rfl rfl ?_
  refine O.ops_nil ?_
  exact O.runs_ret ⟨_, rfl, rfl, rfl⟩
end Go.Proofs.YtcpigoljjbhkkaaGreatDoor.ft
namespace Go.Proofs.YtcpigoljjbhkkaaGreatDoor.ft
open Go Go.RowKit Go.Proofs.YtcpigoljjbhkkaaGreatDoor.Ev

/-- What is written behind which text: the text that there is then, and what the call returns. -/
structure BRow where
  old : Option Nat
  x : SV
  new : Nat
  ret : SV
def sameN : Option Nat → Option Nat → Bool
  | none, none => true
  | some a, some b => Nat.beq a b
  | _, _ => false
theorem sameN_eq {a b : Option Nat} (h : sameN a b = true) : a = b := by
  cases a <;> cases b <;> first | rfl | cases h | exact congrArg some (Nat.eq_of_beq_eq_true h)
def findB (old : Option Nat) (x : SV) : List BRow → Option BRow
  | [] => none
  | r :: l => bif sameN old r.old && SV.same x r.x then some r else findB old x l
theorem findB_mem {old : Option Nat} {x : SV} {r : BRow} : ∀ {l : List BRow}, findB old x l = some r → r ∈ l ∧ r.old = old ∧ r.x = x
  | a :: l, h => by
    unfold findB at h
    cases hs : sameN old a.old && SV.same x a.x with
    | true =>
      rw [hs, cond_true] at h
      obtain rfl := Option.some.inj h
      rw [Bool.and_eq_true] at hs
      exact ⟨List.mem_cons_self .., (sameN_eq hs.1).symm, (same_eq _ _ hs.2).symm⟩
    | false =>
      rw [hs, cond_false] at h
      obtain ⟨h1, h2⟩ := findB_mem h
      exact ⟨List.mem_cons_of_mem _ h1, h2⟩

def wOut (hp : Hp) (b : Nat) (old : Option Nat) (nb j' nx : Nat) (v : SV) : List Out :=
  [⟨.ret, ⟨.leaf, 0, []⟩, ⟨((match old with
    | some rb => hp.objs.put rb none
    | none => hp.objs).set nb (.text j' 5 nb)).set b (.bld b j' nb nb 79), nx⟩, v⟩]
/-- Is a text written (0), or a byte (1)? -/
def kindX : SV → Nat
  | .lit (.int _ _) => 1
  | _ => 0
/-- The word on WriteString (d = 0), and on WriteByte (d = 1). -/
def wW (d : Nat) (rows : List BRow) (args : List SV) (hp : Hp) : R :=
  match args with
  | [.ptr b 0, x] => match hp.objs.get b with
    | some (.cells [.lit (.pointer none), .lit (.slice none 0 0)] e) => bif Nat.beq e 79 && (Nat.beq d 0 && (Nat.blt b hp.next && Nat.beq 0 (kindX x))) then (match findB none x rows with
      | some r => some (wOut hp b none hp.next r.new (hp.next + 1) r.ret)
      | none => none) else none
    | some (.bld b' j rb cv e) => bif Nat.beq e 79 && Nat.beq b' b then (match hp.objs.get rb with
      | some (.text j2 e2 cv2) => bif Nat.beq j2 j && (Nat.beq e2 5 && (Nat.beq cv2 cv && (Nat.blt b hp.next && (Nat.blt rb hp.next && Nat.beq d (kindX x))))) then (match findB (some j) x rows with
        | some r => some (wOut hp b (some rb) (hp.next + d) r.new (hp.next + (d + 1)) r.ret)
        | none => none) else none
      | _ => none) else none
    | _ => none
  | _ => none
/-- The word on String. -/
def strB (g : Nat → Bool) (args : List SV) (hp : Hp) : R :=
  match args with
  | [.ptr b 0] => match hp.objs.get b with
    | some (.bld b' j rb cv e) => bif Nat.beq e 79 && Nat.beq b' b then (match hp.objs.get rb with
      | some (.text j2 e2 cv2) => bif Nat.beq j2 j && (Nat.beq e2 5 && Nat.beq cv2 cv) then (bif g j then some [⟨.ret, ⟨.leaf, 0, []⟩, ⟨hp.objs.put rb none, hp.next⟩, .opq j⟩] else none) else none
      | _ => none) else none
    | _ => none
  | _ => none

/-- A row is so. -/
def BTrue (θ : Ev.Ren) (K : Nat → Prop) (r : BRow) : Prop := ∃ l s : List UInt8, (∀ j, r.old = some j → θ.opq j = .string ⟨⟨l⟩⟩) ∧ (r.old = none → l = []) ∧ l.length ≤ 1000000 ∧ s ≠ [] ∧ s.length ≤ 1000000 ∧ θ.opq r.new = .string ⟨⟨l ++ s⟩⟩ ∧ K r.new ∧
  ((conc θ r.x = .string ⟨⟨s⟩⟩ ∧ r.ret.ok K ∧ conc θ r.ret = .tuple #[.int .i64 s.length, .nilIface]) ∨ (∃ c : UInt8, s = [c] ∧ conc θ r.x = .int .u8 c.toNat ∧ r.ret = .lit .nilIface))

section
variable {Γ : Env} {X : Nat → Prop} {w0 : World} {θ : Ev.Ren} {K : Nat → Prop} {hp : Hp} {w : World}
theorem bySV_conc (θ : Ev.Ren) (l : List UInt8) : concL θ (bySV l) = l.map fun b => Value.int .u8 b.toNat := by
  rw [concL_eq, bySV, List.map_map]
  rfl
/-- What stands behind a write. -/
theorem bld_post {θ' : Ev.Ren} {K' : Nat → Prop} {H : Hp} {w' : World} {b nb n j' : Nat} {L : List UInt8} {base : T AObj} (hr : Rep Γ X w0 θ K hp w) (hr' : Rep (.plain .leaf) X w0 θ' K' H w') (hG : Grow K θ hp.next K' θ' H.next)
    (hb : H.objs.get b = some (.cells [.ptr b 0, .row nb 0 n n nb] 79)) (hnb : H.objs.get nb = some (.row (bySV L) 5 n nb 1)) (hn : L.length = n) (hne : nb ≠ b)
    (hbase : ∀ k o, k ≠ b → k ≠ nb → base.get k = some o → H.objs.get k = some o) (hj : θ.opq j' = .string ⟨⟨L⟩⟩) (hK : K j') :
    Rep Γ X w0 θ' K' ⟨(base.set nb (.text j' 5 nb)).set b (.bld b j' nb nb 79), H.next⟩ w' := by
  have hj' : θ'.opq j' = .string ⟨⟨L⟩⟩ := (hG.ext.opq j' hK).trans hj
  have r1 := ofPlain hr hr' hG
  obtain ⟨kb, _, okb, _⟩ := r1.obj b _ hb
  obtain ⟨kn, _, okn, _⟩ := r1.obj nb _ hnb
  have r2 := view (o' := .text j' 5 nb) r1 hnb ⟨hG.mono _ hK, okn.2⟩ (by
    rintro ob ⟨fr, ex, rfl, h1, h2⟩
    refine ⟨L, fr, ex, hj', by rw [bySV_conc], by rw [bySV_len] at h1; exact h1, ?_⟩
    rw [bySV_len, hn] at h2
    omega)
  have r3 := view (b := b) (o := .cells [.ptr b 0, .row nb 0 n n nb] 79) (o' := .bld b j' nb nb 79) r2 (by rw [get_set_ne (fun e => hne e.symm)]; exact hb) ⟨kb, hG.mono _ hK, kn, kn⟩ (by
    rintro ob ⟨fr, rfl, h1⟩
    exact ⟨L, fr, hj', by simp only [concL, conc, hn], h1⟩)
  refine Rep.fewer (h := ⟨(H.objs.set nb (.text j' 5 nb)).set b (.bld b j' nb nb 79), H.next⟩) r3 fun k o hk => ?_
  rw [T.get_set] at hk ⊢
  by_cases e : k = b
  · rw [if_pos e] at hk ⊢; exact hk
  · rw [if_neg e] at hk ⊢
    rw [T.get_set] at hk ⊢
    by_cases e2 : k = nb
    · rw [if_pos e2] at hk ⊢; exact hk
    · rw [if_neg e2] at hk ⊢; exact hbase k o e e2 hk

/-- A builder that holds a text, as cells and a row. -/
theorem bld_view {b j rb cv : Nat} {l : List UInt8} (hr : Rep Γ X w0 θ K hp w) (hb : hp.objs.get b = some (.bld b j rb cv 79)) (hrb : hp.objs.get rb = some (.text j 5 cv)) (hj : θ.opq j = .string ⟨⟨l⟩⟩) :
    Rep (.plain .leaf) X w0 θ K ⟨(hp.objs.set rb (.row (bySV l) 5 l.length cv 1)).set b (.cells [.ptr b 0, .row rb 0 l.length l.length cv] 79), hp.next⟩ w := by
  have hne : b ≠ rb := fun e => by rw [← e, hb] at hrb; cases hrb
  obtain ⟨kb, _, okb, _⟩ := hr.obj b _ hb
  have okL : SV.okL K (bySV l) := (okL_iff K _).2 fun v hv => by
    obtain ⟨u, _, rfl⟩ := List.mem_map.1 hv
    trivial
  have r1 := view (o' := .row (bySV l) 5 l.length cv 1) hr hrb ⟨okL, okb.2.2.2⟩ (by
    rintro ob ⟨l2, fr, ex, h0, rfl, h1, h2⟩
    obtain rfl : l = l2 := by rw [hj] at h0; simpa using h0
    exact ⟨fr, ex, by rw [bySV_conc], by rw [bySV_len]; exact h1, by rw [bySV_len]; omega⟩)
  have r2 := view (b := b) (o := .bld b j rb cv 79) (o' := .cells [.ptr b 0, .row rb 0 l.length l.length cv] 79) r1 (by rw [get_set_ne hne]; exact hb) ⟨kb, ⟨okb.2.2.1, okb.2.2.2⟩, trivial⟩ (by
    rintro ob ⟨l2, fr, h0, rfl, h1⟩
    obtain rfl : l = l2 := by rw [hj] at h0; simpa using h0
    exact ⟨fr, rfl, h1⟩)
  exact toPlain r2

/-- **WriteString's word is so**, where the builder is fresh. -/
theorem wsFresh {b : Nat} {r : BRow} (hr : Rep Γ X w0 θ K hp w) (hb : hp.objs.get b = some (.cells [.lit (.pointer none), .lit (.slice none 0 0)] 79)) (hlt : b < hp.next) {s : List UInt8} (hs0 : s ≠ []) (hs : s.length ≤ 1000000)
    (hx : conc θ r.x = .string ⟨⟨s⟩⟩) (hj : θ.opq r.new = .string ⟨⟨s⟩⟩) (hK : K r.new) (hok : r.ret.ok K) (hret : conc θ r.ret = .tuple #[.int .i64 s.length, .nilIface]) :
    CallsIn Fence.wide 0 Tryz.prog 20 (concL θ [.ptr b 0, r.x]).toArray w (CPost Γ X w0 θ K hp.next (wOut hp b none hp.next r.new (hp.next + 1) r.ret)) := by
  obtain ⟨kb, _⟩ := hr.obj b _ hb
  have he : concL θ [.ptr b 0, r.x] = concL θ [.ptr b 0, .lit (.string ⟨⟨s⟩⟩)] := by simp only [concL, hx, conc]
  rw [he]
  refine callsIn_of (ccMemOk _) (ws_fresh hb hlt hs0 hs) (toPlain hr) ⟨kb, trivial, trivial⟩ ?_
  rintro ⟨ex, fr, H, v⟩ ⟨rfl, hH⟩ θ' K' w' hG hv hr'
  have hH : H = putHp (hp.upd b (.cells [.ptr b 0, .lit (.slice none 0 0)] 79)) b (bySV s) s.length none := hH
  have hn : H.next = hp.next + 1 := by rw [hH]; rfl
  have g1 : H.objs.get b = some (.cells [.ptr b 0, .row hp.next 0 s.length s.length hp.next] 79) := by rw [hH]; exact get_set_eq
  have g2 : H.objs.get hp.next = some (.row (bySV s) 5 s.length hp.next 1) := by rw [hH]; exact (get_set_ne (by omega)).trans get_set_eq
  have hG : Grow K θ hp.next K' θ' H.next := hG
  have hp3 := bld_post (base := hp.objs) hr hr' hG g1 g2 rfl (by omega) (fun k o h1 h2 h => by
    rw [hH]
    exact (get_set_ne h1).trans ((get_set_ne h2).trans ((get_set_ne h1).trans h))) hj hK
  refine ⟨_, List.mem_singleton_self _, θ', K', by rw [hn] at hG; exact hG, ?_, Ev.ok_mono hG.mono _ hok, by rw [hn] at hp3; exact hp3⟩
  rw [conc_ext hG.ext _ hok, hret]
  rfl
end
end Go.Proofs.YtcpigoljjbhkkaaGreatDoor.ft
namespace Go.Proofs.YtcpigoljjbhkkaaGreatDoor.ft
open Go Go.RowKit Go.Proofs.YtcpigoljjbhkkaaGreatDoor.Ev

section
variable {Γ : Env} {X : Nat → Prop} {w0 : World} {θ : Ev.Ren} {K : Nat → Prop} {hp : Hp} {w : World}
theorem wsUsed {b j rb cv : Nat} {r : BRow} (hr : Rep Γ X w0 θ K hp w) (hb : hp.objs.get b = some (.bld b j rb cv 79)) (hrb : hp.objs.get rb = some (.text j 5 cv)) (hlt : b < hp.next) {l s : List UInt8} (hl : θ.opq j = .string ⟨⟨l⟩⟩) (hl1 : l.length ≤ 1000000) (hs0 : s ≠ []) (hs : s.length ≤ 1000000)
    (hx : conc θ r.x = .string ⟨⟨s⟩⟩) (hj : θ.opq r.new = .string ⟨⟨l ++ s⟩⟩) (hK : K r.new) (hok : r.ret.ok K) (hret : conc θ r.ret = .tuple #[.int .i64 s.length, .nilIface]) :
    CallsIn Fence.wide 0 Tryz.prog 20 (concL θ [.ptr b 0, r.x]).toArray w (CPost Γ X w0 θ K hp.next (wOut hp b (some rb) (hp.next + 0) r.new (hp.next + (0 + 1)) r.ret)) := by
  have hne : b ≠ rb := fun e => by rw [← e, hb] at hrb; cases hrb
  obtain ⟨kb, _⟩ := hr.obj b _ hb
  have he : concL θ [.ptr b 0, r.x] = concL θ [.ptr b 0, .lit (.string ⟨⟨s⟩⟩)] := by simp only [concL, hx, conc]
  rw [he]
  obtain ⟨h2, hh2⟩ : ∃ h2 : Hp, h2 = ⟨(hp.objs.set rb (.row (bySV l) 5 l.length cv 1)).set b (.cells [.ptr b 0, .row rb 0 l.length l.length cv] 79), hp.next⟩ := ⟨_, rfl⟩
  have hv := bld_view hr hb hrb hl
  rw [← hh2] at hv
  have b2 : h2.objs.get b = some (.cells [.ptr b 0, .row rb 0 l.length l.length cv] 79) := by rw [hh2]; exact get_set_eq
  have r2 : h2.objs.get rb = some (.row (bySV l) 5 l.length cv 1) := by rw [hh2]; exact (get_set_ne (fun e => hne e.symm)).trans get_set_eq
  have n2 : h2.next = hp.next := by rw [hh2]
  refine callsIn_of (ccMemOk _) (ws_used b2 r2 hne (by omega) (bySV_len l) hl1 hs0 hs) hv ⟨kb, trivial, trivial⟩ ?_
  rintro ⟨ex, fr, H, v⟩ ⟨rfl, hH⟩ θ' K' w' hG hv' hr'
  have hH : H = putHp h2 b (bySV l ++ bySV s) (l.length + s.length) (some rb) := hH
  have hn : H.next = hp.next + 1 := by rw [hH]; show h2.next + 1 = _; rw [n2]
  rw [← bySV_append] at hH
  have g1 : H.objs.get b = some (.cells [.ptr b 0, .row hp.next 0 (l.length + s.length) (l.length + s.length) hp.next] 79) := by rw [hH, ← n2]; exact get_set_eq
  have g2 : H.objs.get hp.next = some (.row (bySV (l ++ s)) 5 (l.length + s.length) hp.next 1) := by rw [hH, ← n2]; exact (get_set_ne (by omega)).trans get_set_eq
  rw [n2] at hG
  have hG : Grow K θ hp.next K' θ' H.next := hG
  have hp3 := bld_post (base := hp.objs.put rb none) hr hr' hG g1 g2 (List.length_append ..) (by omega) (fun k o h1 h3 h => by
    rw [T.get_put] at h
    by_cases e : k = rb
    · rw [if_pos e] at h; cases h
    · rw [if_neg e] at h
      rw [hH]
      refine (get_set_ne h1).trans ((get_set_ne (by rw [n2]; exact h3)).trans ((get_put_ne e).trans ?_))
      rw [hh2]
      exact (get_set_ne h1).trans ((get_set_ne e).trans h)) hj hK
  refine ⟨_, List.mem_singleton_self _, θ', K', by rw [hn] at hG; exact hG, ?_, Ev.ok_mono hG.mono _ hok, by rw [hn] at hp3; exact hp3⟩
  rw [conc_ext hG.ext _ hok, hret]
  rfl
theorem wbUsed {b j rb cv : Nat} {r : BRow} (hr : Rep Γ X w0 θ K hp w) (hb : hp.objs.get b = some (.bld b j rb cv 79)) (hrb : hp.objs.get rb = some (.text j 5 cv)) (hlt : b < hp.next) (hlr : rb < hp.next) {l : List UInt8} {c : UInt8} (hl : θ.opq j = .string ⟨⟨l⟩⟩) (hl1 : l.length ≤ 1000000)
    (hx : conc θ r.x = .int .u8 c.toNat) (hj : θ.opq r.new = .string ⟨⟨l ++ [c]⟩⟩) (hK : K r.new) (hret : r.ret = .lit .nilIface) :
    CallsIn Fence.wide 0 Tryz.prog 22 (concL θ [.ptr b 0, r.x]).toArray w (CPost Γ X w0 θ K hp.next (wOut hp b (some rb) (hp.next + 1) r.new (hp.next + (1 + 1)) r.ret)) := by
  have hne : b ≠ rb := fun e => by rw [← e, hb] at hrb; cases hrb
  obtain ⟨kb, _⟩ := hr.obj b _ hb
  have he : concL θ [.ptr b 0, r.x] = concL θ [.ptr b 0, .lit (.int .u8 c.toNat)] := by simp only [concL, hx, conc]
  rw [he]
  obtain ⟨h2, hh2⟩ : ∃ h2 : Hp, h2 = ⟨(hp.objs.set rb (.row (bySV l) 5 l.length cv 1)).set b (.cells [.ptr b 0, .row rb 0 l.length l.length cv] 79), hp.next⟩ := ⟨_, rfl⟩
  have hv := bld_view hr hb hrb hl
  rw [← hh2] at hv
  have b2 : h2.objs.get b = some (.cells [.ptr b 0, .row rb 0 l.length l.length cv] 79) := by rw [hh2]; exact get_set_eq
  have r2 : h2.objs.get rb = some (.row (bySV l) 5 l.length cv 1) := by rw [hh2]; exact (get_set_ne (fun e => hne e.symm)).trans get_set_eq
  have n2 : h2.next = hp.next := by rw [hh2]
  refine callsIn_of (ccMemOk _) (wb_used (c := c) b2 r2 hne (by omega) (by omega) (bySV_len l) hl1) hv ⟨kb, trivial, trivial⟩ ?_
  rintro ⟨ex, fr, H, v⟩ ⟨rfl, hH⟩ θ' K' w' hG hv' hr'
  have hH : H = putHp ⟨h2.objs.set h2.next (.cells (bySV [c]) 5), h2.next + 1⟩ b (bySV l ++ bySV [c]) (l.length + 1) (some rb) := hH
  have hn : H.next = hp.next + 2 := by rw [hH]; show h2.next + 1 + 1 = _; rw [n2]
  rw [← bySV_append] at hH
  have g1 : H.objs.get b = some (.cells [.ptr b 0, .row (hp.next + 1) 0 (l.length + 1) (l.length + 1) (hp.next + 1)] 79) := by rw [hH, ← n2]; exact get_set_eq
  have g2 : H.objs.get (hp.next + 1) = some (.row (bySV (l ++ [c])) 5 (l.length + 1) (hp.next + 1) 1) := by rw [hH, ← n2]; exact (get_set_ne (by omega)).trans get_set_eq
  rw [n2] at hG
  have hG : Grow K θ hp.next K' θ' H.next := hG
  have hp3 := bld_post (base := hp.objs.put rb none) hr hr' hG g1 g2 (List.length_append ..) (by omega) (fun k o h1 h3 h => by
    rw [T.get_put] at h
    by_cases e : k = rb
    · rw [if_pos e] at h; cases h
    · rw [if_neg e] at h
      have hk : k ≠ hp.next := fun e => hr.next k (by omega) (hr.obj k o h).1
      rw [hH]
      refine (get_set_ne h1).trans ((get_set_ne (by show k ≠ h2.next + 1; rw [n2]; exact h3)).trans ((get_put_ne e).trans ((get_set_ne (by rw [n2]; exact hk)).trans ?_)))
      rw [hh2]
      exact (get_set_ne h1).trans ((get_set_ne e).trans h)) hj hK
  refine ⟨_, List.mem_singleton_self _, θ', K', by rw [hn] at hG; exact hG, ?_, by rw [hret]; trivial, by rw [hn] at hp3; exact hp3⟩
  rw [hret]
theorem strBOk {g : Nat → Bool} {args : List SV} {outs : List Out} (h : strB g args hp = some outs) (hr : Rep Γ X w0 θ K hp w) (hne : ∀ j l, g j = true → θ.opq j = .string ⟨⟨l⟩⟩ → l ≠ [] ∧ l.length ≤ 1000000) :
    CallsIn Fence.wide 0 Tryz.prog 31 (concL θ args).toArray w (CPost Γ X w0 θ K hp.next outs) := by
  unfold strB at h
  split at h
  · rename_i b
    split at h
    · rename_i b' j rb cv e hb
      cases hc : (Nat.beq e 79 && Nat.beq b' b) with
      | false => rw [hc] at h; cases h
      | true =>
        rw [hc, cond_true] at h
        rw [Bool.and_eq_true] at hc
        obtain rfl := Nat.eq_of_beq_eq_true hc.1
        obtain rfl := Nat.eq_of_beq_eq_true hc.2
        split at h
        · rename_i j2 e2 cv2 hrb
          cases hc2 : (Nat.beq j2 j && (Nat.beq e2 5 && Nat.beq cv2 cv)) with
          | false => rw [hc2] at h; cases h
          | true =>
            rw [hc2, cond_true] at h
            simp only [Bool.and_eq_true] at hc2
            obtain rfl := Nat.eq_of_beq_eq_true hc2.1
            obtain rfl := Nat.eq_of_beq_eq_true hc2.2.1
            obtain rfl := Nat.eq_of_beq_eq_true hc2.2.2
            rename_i j2
            cases hg : g j2 with
            | false => rw [hg] at h; cases h
            | true =>
            rw [hg, cond_true] at h
            obtain rfl := Option.some.inj h
            obtain ⟨k1, k2, k3, ob, k4, l, fr, hj, rfl, k6⟩ := hr.obj b' _ hb
            obtain ⟨j1, jX, j3, ob2, j4, l2, fr2, ex, hj2, rfl, j6, j7⟩ := hr.obj rb _ hrb
            obtain rfl : l2 = l := by rw [hj] at hj2; simpa using hj2.symm
            obtain ⟨hl0, hl1⟩ := hne j2 l2 hg hj
            refine callsIn_wide.2 ((str_calls (θ.blk b') (θ.blk rb) (l2.length + θ.cap cv2) _ l2 _ w fr fr2 hl0 (by omega) hl1 k4 j4 (by rw [List.length_append, List.length_map]; omega) (fun k x hx => ?_)).mono ?_)
            · rw [List.getElem?_append_left (by rw [List.length_map]; exact (List.getElem?_eq_some_iff.1 hx).1), List.getElem?_map, hx]
              rfl
            · rintro q w' ⟨rfl, rfl⟩
              have hz : l2.length ≠ 0 := by simpa using hl0
              refine ⟨_, List.mem_singleton_self _, θ, K, Grow.refl _ _ _, ?_, k3.2.1, Rep.forget hr hrb ?_ ?_ ?_ ?_ fun k hk => ?_⟩
              · show _ = Ending.returned (oneOf (θ.opq j2))
                rw [hj]
                rfl
              · simp only [World.freeze, hz, if_false]; rfl
              · simp only [World.freeze, hz, if_false]; rfl
              · simp only [World.freeze, hz, if_false]; rfl
              · simp only [World.freeze, hz, if_false, Array.size_modify]; rfl
              · simp only [World.freeze, hz, if_false, Array.getElem?_modify]
                rw [if_neg (fun e => hk e.symm)]
                rfl
        · cases h
    · cases h
  · cases h
end
end Go.Proofs.YtcpigoljjbhkkaaGreatDoor.ft
namespace Go.Proofs.YtcpigoljjbhkkaaGreatDoor.ft
open Go Go.RowKit Go.Proofs.YtcpigoljjbhkkaaGreatDoor.Ev

/-- A call, and what it returns. -/
structure CRow where
  f : FuncId
  args : List SV
  v : SV
def findC (f : FuncId) (args : List SV) : List CRow → Option SV
  | [] => none
  | r :: l => bif Nat.beq f r.f && SV.sameL args r.args then some r.v else findC f args l
theorem findC_mem {f : FuncId} {args : List SV} {v : SV} : ∀ {l : List CRow}, findC f args l = some v → (⟨f, args, v⟩ : CRow) ∈ l
  | r :: l, h => by
    unfold findC at h
    cases hs : Nat.beq f r.f && SV.sameL args r.args with
    | true =>
      rw [hs, cond_true] at h
      rw [Bool.and_eq_true] at hs
      obtain rfl := Option.some.inj h
      rw [Nat.eq_of_beq_eq_true hs.1, sameL_eq _ _ hs.2]
      exact List.mem_cons_self ..
    | false =>
      rw [hs, cond_false] at h
      exact List.mem_cons_of_mem _ (findC_mem h)
def findJ (l : List SV) : List (List SV × SV) → Option SV
  | [] => none
  | r :: rs => bif SV.sameL l r.1 then some r.2 else findJ l rs
theorem findJ_mem {l : List SV} {v : SV} : ∀ {rs : List (List SV × SV)}, findJ l rs = some v → (l, v) ∈ rs
  | r :: rs, h => by
    unfold findJ at h
    cases hs : SV.sameL l r.1 with
    | true =>
      rw [hs, cond_true] at h
      obtain rfl := Option.some.inj h
      rw [sameL_eq _ _ hs]
      exact List.mem_cons_self ..
    | false =>
      rw [hs, cond_false] at h
      exact List.mem_cons_of_mem _ (findJ_mem h)
/-- The word on Join, by a blank. -/
def joinW (rs : List (List SV × SV)) (args : List SV) (hp : Hp) : R :=
  match args with
  | [.slice b 0 n c, .lit (.string ⟨⟨[32]⟩⟩)] => match hp.objs.get b with
    | some (.cells l _e) => bif Nat.beq l.length n && (Nat.ble n c && Nat.ble n 10) then (match findJ l rs with
      | some v => some (told1 hp v)
      | none => none) else none
    | _ => none
  | _ => none
structure Tabs where
  calls : List CRow
  joins : List (List SV × SV)
  brows : List BRow
  big : Nat → Bool
def ftMem (t : Tabs) : Oracle := fun f args hp =>
  bif Nat.beq f 20 then wW 0 t.brows args hp
  else bif Nat.beq f 22 then wW 1 t.brows args hp
  else bif Nat.beq f 31 then strB t.big args hp
  else bif Nat.beq f 21 then joinW t.joins args hp
  else match findC f args t.calls with
    | some v => some (told1 hp v)
    | none => none

/-- Pieces of code, one behind the other. -/
def runSeq (P : Program) (Γ : Glob) (mem : Oracle) (n : Nat) : List Code → Fr → Hp → R
  | [], fr, hp => some [⟨.normal, fr, hp, .lit undef⟩]
  | c :: cs, fr, hp => match runO P Γ mem n (.code c none fr hp) with
    | some outs => seqOut (fun f h => runSeq P Γ mem n cs f h) outs
    | none => none
/-- The first pieces of code, and the rest. -/
def spine : Nat → Code → List Code × Code
  | 0, c => ([], c)
  | n + 1, .seq a b => let r := spine n b; (a :: r.1, r.2)
  | _ + 1, c => ([], c)
end Go.Proofs.YtcpigoljjbhkkaaGreatDoor.ft
