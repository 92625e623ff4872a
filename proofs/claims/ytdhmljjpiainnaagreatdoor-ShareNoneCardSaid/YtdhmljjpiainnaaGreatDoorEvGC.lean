/-
  THE EVALUATOR'S OPERATIONS THAT MAKE OR TURN MEMORY ARE THE MODEL'S (3: append, copy; and all of them in one word), by the author of this claim. Of any program; no condition. | THE EVALUATOR'S OPERATIONS THAT MAKE OR TURN MEMORY ARE THE MODEL'S, in one word, by the author of this claim. Of any program; no condition. | THE EVALUATOR'S OPERATIONS THAT MAKE OR TURN MEMORY ARE THE MODEL'S (4: copy, bytes of a string; all of them in one word), by the author of this claim. Of any program; no condition. | THE EVALUATOR'S OPERATIONS THAT MAKE OR TURN MEMORY ARE THE MODEL'S: all of them in one word, by the author of this claim. Of any program; no condition. | WHAT IT MEANS THAT THE EVALUATOR IS SOUND; operations one behind the other, by the author of this claim. Of any program in which no function is runtime.NumGoroutine.
-/
import Derived.Test.YtdhmljjpiainnaaGreatDoorEvGB
namespace Go.Proofs.YtdhmljjpiainnaaGreatDoor.Ev
open Go Go.RowKit
section
variable {P : Program} {Γ : Env} {X : Nat → Prop} {w0 : World} {θ : Ren} {K : Nat → Prop} {h : Hp} {w : World}
theorem Rep.move {b β c : Nat} {o o' : AObj} {ob' : Obj} (hr : Rep Γ X w0 θ K h w) (hb : h.objs.get b = some o) (hβ : β = h.next) (hok : o'.ok (also K β)) (hO : ORep (θ.bind β (θ.blk b) c) o' ob') :
    Rep Γ X w0 (θ.bind β (θ.blk b) c) (also K β) ⟨(h.objs.put b none).set β o', β + 1⟩ (setB w (θ.blk b) ob') := by
  have hnk : ¬ K β := by rw [hβ]; exact hr.next _ (Nat.le_refl _)
  have hE : Ext K θ (θ.bind β (θ.blk b) c) := Ren.bind_ext hnk
  obtain ⟨hKb, hXb, _, ob, hw, _⟩ := hr.obj b o hb
  have get : ∀ b' o1, b' ≠ β → ((h.objs.put b none).set β o').get b' = some o1 → b' ≠ b ∧ h.objs.get b' = some o1 := fun b' o1 hne hg => by
    rw [T.get_set, if_neg hne, T.get_put] at hg
    by_cases e : b' = b
    · rw [if_pos e] at hg; cases hg
    · rw [if_neg e] at hg; exact ⟨e, hg⟩
  have blk : ∀ b' o1, h.objs.get b' = some o1 → (θ.bind β (θ.blk b) c).blk b' = θ.blk b' := fun b' o1 hg => hE.blk b' (hr.obj b' o1 hg).1
  refine ⟨hr.os, hr.tape, hr.output, by simpa [setB] using hr.size, fun k hk => ?_, hr.low, hr.glob, fun b' o1 hb' => ?_, fun b1 b2 o1 o2 h1 h2 he => ?_, fun i hi => ?_, Γ.ext hr.inv hE also_mono⟩
  · rw [setB_get, if_neg (fun e : k = θ.blk b ∧ _ => hXb (e.1 ▸ hk))]
    exact hr.kept k hk
  · by_cases e : b' = β
    · subst e
      have hb'' : ((h.objs.put b none).set b' o').get b' = some o1 := hb'
      rw [T.get_set, if_pos rfl] at hb''
      cases hb''
      exact ⟨.inr rfl, by rw [Ren.bind_blk]; exact hXb, hok, ob', by rw [Ren.bind_blk]; exact setB_same hw, hO⟩
    · obtain ⟨hne, hg⟩ := get b' o1 e hb'
      obtain ⟨k1, k2, k3, ob1, k4, k5⟩ := hr.obj b' o1 hg
      refine ⟨.inl k1, by rw [blk b' o1 hg]; exact k2, AObj.ok_mono also_mono _ k3, ob1, ?_, ORep_ext hE k3 k5⟩
      rw [blk b' o1 hg, setB_get, if_neg (fun e' : θ.blk b' = θ.blk b ∧ _ => hne (hr.inj b' b o1 o hg hb e'.1))]
      exact k4
  · by_cases e1 : b1 = β
    · by_cases e2 : b2 = β
      · rw [e1, e2]
      · obtain ⟨hne, hg⟩ := get b2 o2 e2 h2
        rw [e1, Ren.bind_blk, blk b2 o2 hg] at he
        exact absurd (hr.inj b2 b o2 o hg hb he.symm) hne
    · obtain ⟨hne1, hg1⟩ := get b1 o1 e1 h1
      by_cases e2 : b2 = β
      · rw [e2, Ren.bind_blk, blk b1 o1 hg1] at he
        exact absurd (hr.inj b1 b o1 o hg1 hb he) hne1
      · obtain ⟨hne2, hg2⟩ := get b2 o2 e2 h2
        rw [blk b1 o1 hg1, blk b2 o2 hg2] at he
        exact hr.inj b1 b2 o1 o2 hg1 hg2 he
  · have hi' : β + 1 ≤ i := hi
    rintro (hk | rfl)
    · exact hr.next i (by omega) hk
    · omega
theorem newRow_rep {l : List SV} {e : TypeId} {len size : Nat} {ex : List Value} {w1 : World} {c : Nat} {fr : Nat × Nat} (hr : Rep Γ X w0 θ K h w) (hl : SV.okL K l) (hlen : l.length = len * size) (hex : ex.length = c * size)
    (h1 : w1.os = w.os) (h2 : w1.tape = w.tape) (h3 : w1.output = w.output) (h4 : w1.heap = w.heap.push (.cells (concL θ l ++ ex).toArray e fr)) (hfr : frOk fr (l.length + ex.length)) :
    Rep Γ X w0 (θ.bind h.next w.heap.size c) (also K h.next) (newRowE h l e len size).2 w1 ∧ conc (θ.bind h.next w.heap.size c) (newRowE h l e len size).1 = .slice (some ⟨w.heap.size, 0, none⟩) len (len + c) ∧ (newRowE h l e len size).1.ok (also K h.next) := by
  have hnk := hr.next h.next (Nat.le_refl _)
  refine ⟨hr.make_next (o := .row l e len h.next size) h1 h2 h3 h4 ⟨okL_also hl, .inr rfl⟩ ⟨fr, ex, by rw [concL_ext (Ren.bind_ext hnk) l hl], hfr, ?_⟩, ?_, ⟨.inr rfl, .inr rfl⟩⟩
  · rw [Ren.bind_cap, hlen, hex, Nat.add_mul]
  · simp only [newRowE, conc, Ren.bind_blk, Ren.bind_cap]
theorem srcCells_sound {size n : Nat} {x : SV} {vs : List SV} (hq : srcCells Γ h size x = some (vs, n)) (hr : Rep Γ X w0 θ K h w) :
    (Builtin.lenOf (conc θ x)).run P w = .ok n w ∧ (Builtin.firstCells size n (conc θ x)).run P w = .ok (concL θ vs).toArray w ∧ SV.okL K vs := by
  unfold srcCells at hq
  split at hq
  · rename_i p c
    simp only [Option.some.injEq, Prod.mk.injEq] at hq
    obtain ⟨rfl, rfl⟩ := hq
    cases p with
    | none => exact ⟨rfl, rfl, trivial⟩
    | some a => exact ⟨rfl, by simp [conc, Builtin.firstCells, loadCells, loadCellsFrom, concL], trivial⟩
  · rename_i s
    simp only [Option.some.injEq, Prod.mk.injEq] at hq
    obtain ⟨rfl, rfl⟩ := hq
    refine ⟨rfl, ?_, (okL_iff _ _).2 fun v hv => ?_⟩
    · simp only [conc, Builtin.firstCells, Sem.run_pure]
      congr 1
      rw [← Array.toList_inj]
      simp [concL_eq, Function.comp, conc]
    · obtain ⟨y, _, rfl⟩ := List.mem_map.1 hv
      trivial
  · rename_i b off m c
    split at hq
    · rename_i us fs hus
      simp only [Option.some.injEq, Prod.mk.injEq] at hq
      obtain ⟨rfl, rfl⟩ := hq
      obtain ⟨a, ha, hl⟩ := readCells_loads (P := P) (θ := θ) hus hr.globW (fun f hf => hr.fact (readCells_facts hus f hf))
      simp only [conc, Value.pointer.injEq, Option.some.injEq] at ha
      subst ha
      exact ⟨rfl, hl, readCells_ok hus hr.okAll⟩
    · cases hq
  · rename_i b off m k cv
    split at hq
    · rename_i us fs hus
      simp only [Option.some.injEq, Prod.mk.injEq] at hq
      obtain ⟨rfl, rfl⟩ := hq
      obtain ⟨a, ha, hl⟩ := readCells_loads (P := P) (θ := θ) hus hr.globW (fun f hf => hr.fact (readCells_facts hus f hf))
      simp only [conc, Value.pointer.injEq, Option.some.injEq] at ha
      subst ha
      exact ⟨rfl, hl, readCells_ok hus hr.okAll⟩
    · cases hq
  · rename_i g off m c
    split at hq
    · rename_i us fs hus
      simp only [Option.some.injEq, Prod.mk.injEq] at hq
      obtain ⟨rfl, rfl⟩ := hq
      obtain ⟨a, ha, hl⟩ := readCells_loads (P := P) (θ := θ) hus hr.globW (fun f hf => hr.fact (readCells_facts hus f hf))
      simp only [conc, Value.pointer.injEq, Option.some.injEq] at ha
      subst ha
      exact ⟨rfl, hl, readCells_ok hus hr.okAll⟩
    · cases hq
  · cases hq
theorem growBy_le (m : Nat) : ∀ (r c : Nat), Builtin.growBy m r c ≤ max c (2 * m + 192) := by
  intro r
  induction r with
  | zero => intro c; simp only [Builtin.growBy]; omega
  | succ r ih =>
    intro c
    simp only [Builtin.growBy]
    split
    · omega
    · have := ih (c + (c + 768) / 4)
      omega
theorem nextslicecap_le {need cap : Nat} (hlt : cap < need) : Builtin.nextslicecap need cap ≤ 2 * need + 192 := by
  unfold Builtin.nextslicecap
  split
  · omega
  · split
    · omega
    · have := growBy_le need 4 cap
      omega
structure Appends (P : Program) (tys : Array TypeId) (args : Array Value) (st xt e : TypeId) (i : TypeInfo) (z : Value) (xd : TypeDesc) (sv xv : Value) : Prop where
  t0 : tys[0]? = some st
  t1 : tys[1]? = some xt
  a0 : args[0]? = some sv
  a1 : args[1]? = some xv
  us : tyU P st = some (.slice e)
  ux : tyU P xt = some xd
  nint : ∀ k, xd ≠ .int k
  info : P.info? e = some i
  zero : i.zero = some z
theorem append_fits {tys : Array TypeId} {args : Array Value} {st xt e ty : TypeId} {i : TypeInfo} {z : Value} {xd : TypeDesc} {base : Option Addr} {sLen sCap n : Nat} {xv : Value} {news : Array Value} {w' : World}
    (ha : Appends P tys args st xt e i z xd (.slice base sLen sCap) xv) (hn : (Builtin.lenOf xv).run P w = .ok n w) (hf : (Builtin.firstCells i.size n xv).run P w = .ok news w) (hle : sLen + n ≤ sCap)
    (hs : (match base with
      | some a => storeCells (a.add (sLen * i.size)) news.toList
      | none => pure () : Sem Unit).run P w = .ok () w') :
    (Builtin.append_ tys ty args).run P w = .ok (.slice base (sLen + n) sCap) w' := by
  have hsize : tySize P e = some i.size := by simp only [tySize, ha.info, Option.map_some]
  have hux := r_underlying ha.ux w
  have hnint := ha.nint
  cases base with
  | none =>
    simp only [Sem.run_pure, Result.ok.injEq, true_and] at hs
    subst hs
    cases xd <;> first
      | exact absurd rfl (hnint _)
      | simp only [Builtin.append_, ha.t0, ha.a0, ha.a1, Sem.run_bind, r_underlying ha.us w, Result.andThen, r_sizeOf hsize w, ha.t1, hux, Sem.run_pure, Bool.false_eq_true, if_false, hn, hle, if_true, Bool.not_false, hf]
  | some a =>
    simp only at hs
    cases xd <;> first
      | exact absurd rfl (hnint _)
      | simp only [Builtin.append_, ha.t0, ha.a0, ha.a1, Sem.run_bind, r_underlying ha.us w, Result.andThen, r_sizeOf hsize w, ha.t1, hux, Sem.run_pure, Bool.false_eq_true, if_false, hn, hle, if_true, Bool.not_false, hf, hs]
theorem append_grows {tys : Array TypeId} {args : Array Value} {st xt e ty : TypeId} {i : TypeInfo} {z : Value} {xd : TypeDesc} {base : Option Addr} {sLen sCap n : Nat} {xv : Value} {olds news : Array Value}
    (ha : Appends P tys args st xt e i z xd (.slice base sLen sCap) xv) (hn : (Builtin.lenOf xv).run P w = .ok n w) (hlt : sCap < sLen + n) (hneed : sLen + n ≤ 4000000) (hbytes : i.bytes ≤ 1000)
    (hf : ∀ w1 : World, w1.heap = w.heap → (Builtin.firstCells i.size n xv).run P w1 = .ok news w1) (ho : ∀ w1 : World, w1.heap = w.heap → (Builtin.firstCells i.size sLen (.slice base sLen sCap)).run P w1 = .ok olds w1) :
    ∃ (c : Nat) (w' : World), (Builtin.append_ tys ty args).run P w = .ok (.slice (some ⟨w.heap.size, 0, none⟩) (sLen + n) (sLen + n + c)) w' ∧ w'.os = w.os ∧ w'.tape = w.tape ∧ w'.output = w.output ∧
      w'.heap = w.heap.push (.cells (olds ++ news ++ Builtin.zeroCells z.cells c) e) := by
  have hsize : tySize P e = some i.size := by simp only [tySize, ha.info, Option.map_some]
  have hzero : tyZero P e = some z := by simp only [tyZero, ha.info, Option.bind_some, ha.zero]
  have hux := r_underlying ha.ux w
  have hnint := ha.nint
  have hnot : ¬ (sLen + n ≤ sCap) := by omega
  have c1 : ¬ (((sLen + n : Nat) : Int) > IntKind.i64.max ∧ (False ∨ i.bytes = 0)) := by
    intro hh
    have : IntKind.i64.max = 9223372036854775807 := by decide
    omega
  have c2 : ¬ (Builtin.nextslicecap (sLen + n) sCap * i.bytes > 2 ^ 48) := by
    have h1 := nextslicecap_le hlt
    have h2 : Builtin.nextslicecap (sLen + n) sCap * i.bytes ≤ (2 * (sLen + n) + 192) * 1000 := Nat.mul_le_mul h1 hbytes
    omega
  refine ⟨w.tape w.drawn (.appendCap (sLen + n) sCap e) % (2 ^ 63 - (sLen + n)), { w.drew with heap := w.heap.push (.cells (olds ++ news ++ Builtin.zeroCells z.cells (w.tape w.drawn (.appendCap (sLen + n) sCap e) % (2 ^ 63 - (sLen + n)))) e) }, ?_, rfl, rfl, rfl, rfl⟩
  have hcut : Question.cut (.appendCap (sLen + n) sCap e) (w.tape w.drawn (.appendCap (sLen + n) sCap e)) = sLen + n + w.tape w.drawn (.appendCap (sLen + n) sCap e) % (2 ^ 63 - (sLen + n)) := rfl
  have hfo : Question.forced (.appendCap (sLen + n) sCap e) = false := rfl
  have hi1 := fun w1 => r_typeInfo (P := P) ha.info w1
  have hz1 := fun w1 => r_zeroValue (P := P) hzero w1
  have ho' := ho w.drew rfl
  have hf' := hf w.drew rfl
  have hsub : sLen + n + w.tape w.drawn (.appendCap (sLen + n) sCap e) % (2 ^ 63 - (sLen + n)) - (sLen + n) = w.tape w.drawn (.appendCap (sLen + n) sCap e) % (2 ^ 63 - (sLen + n)) := by omega
  cases xd <;> first
    | exact absurd rfl (hnint _)
    | (simp only [Builtin.append_, ha.t0, ha.a0, ha.a1, Sem.run_bind, r_underlying ha.us w, Result.andThen, r_sizeOf hsize w, ha.t1, hux, Sem.run_pure, Bool.false_eq_true, if_false, hn, hnot, Bool.not_false, if_true, hi1, c1, c2, run_choose, hfo, hcut, World.drew_eq, run_askRoom, ho', hf', hz1, newRow, run_newObj, hsub]
       rfl)
end
open Go Go.RowKit
section
variable {P : Program} {Γ : Env} {X : Nat → Prop} {w0 : World} {θ : Ren} {K : Nat → Prop} {h : Hp} {w : World}
theorem firstCells_heap {size n : Nat} {x : SV} {vs : List SV} (hq : srcCells Γ h size x = some (vs, n)) (hr : Rep Γ X w0 θ K h w) (w1 : World) (h1 : w1.heap = w.heap) :
    (Builtin.firstCells size n (conc θ x)).run P w1 = .ok (concL θ vs).toArray w1 := by
  -- only the heap counts
  have key : Rep Γ X { w0 with os := w1.os, tape := w1.tape, output := w1.output } θ K h w1 :=
    ⟨rfl, rfl, rfl, by rw [h1]; exact hr.size, fun k hk => by rw [h1]; exact hr.kept k hk, hr.low, hr.glob, fun b o hb => by rw [h1]; exact hr.obj b o hb, hr.inj, hr.next, Γ.base hr.inv (fun _ h => h) (fun _ _ => rfl) (Nat.le_refl _)⟩
  exact (srcCells_sound hq key).2.1
theorem loads_heap {p : SV} {n : Nat} {vs : List SV} {fs : List Fact} (hq : readCells Γ h p n = some (vs, fs)) (hr : Rep Γ X w0 θ K h w) (w1 : World) (h1 : w1.heap = w.heap) :
    ∃ a : Addr, conc θ p = .pointer (some a) ∧ (loadCells a n).run P w1 = .ok (concL θ vs).toArray w1 := by
  have key : Rep Γ X { w0 with os := w1.os, tape := w1.tape, output := w1.output } θ K h w1 :=
    ⟨rfl, rfl, rfl, by rw [h1]; exact hr.size, fun k hk => by rw [h1]; exact hr.kept k hk, hr.low, hr.glob, fun b o hb => by rw [h1]; exact hr.obj b o hb, hr.inj, hr.next, Γ.base hr.inv (fun _ h => h) (fun _ _ => rfl) (Nat.le_refl _)⟩
  exact readCells_loads hq key.globW fun f hf => key.fact (readCells_facts hq f hf)
theorem readCells_length {p : SV} {n : Nat} {vs : List SV} {fs : List Fact} (hq : readCells Γ h p n = some (vs, fs)) : vs.length = n := by
  unfold readCells at hq
  split at hq
  · split at hq
    · rename_i us hus
      simp only [Option.some.injEq, Prod.mk.injEq] at hq
      obtain ⟨rfl, rfl⟩ := hq
      simp only [Option.bind_eq_some_iff] at hus
      obtain ⟨l, _, hc⟩ := hus
      exact (cut_spec hc).2
    · cases hq
  · split at hq
    · rename_i us hus
      simp only [Option.some.injEq, Prod.mk.injEq] at hq
      obtain ⟨rfl, rfl⟩ := hq
      simp only [Option.bind_eq_some_iff] at hus
      obtain ⟨l, _, hc⟩ := hus
      exact (cut_spec hc).2
    · cases hq
  · cases hq
theorem zeroCells_len (z : Value) (c : Nat) : (Builtin.zeroCells z.cells c).toList.length = c * z.cells.size := by
  simp [Builtin.zeroCells]
def AppOut (P : Program) (Γ : Env) (X : Nat → Prop) (w0 : World) (θ : Ren) (K : Nat → Prop) (n : Nat) (s : Sem Value) (w : World) (r : SV × Hp) : Prop :=
  ∃ θ' K' w', Ext K θ θ' ∧ (∀ i, K i → K' i) ∧ (∀ i, K' i → K i ∨ n ≤ i) ∧ s.run P w = .ok (conc θ' r.1) w' ∧ r.1.ok K' ∧ Rep Γ X w0 θ' K' r.2 w'
theorem grows_out {tys : Array TypeId} {args : Array Value} {st xt e ty : TypeId} {i : TypeInfo} {z : Value} {xd : TypeDesc} {base : Option Addr} {sLen sCap n : Nat} {xv : Value} {olds news : List SV} {t : T AObj}
    (hr : Rep Γ X w0 θ K h w) (hsub : ∀ b o, t.get b = some o → h.objs.get b = some o)
    (ha : Appends P tys args st xt e i z xd (.slice base sLen sCap) xv) (hn : (Builtin.lenOf xv).run P w = .ok n w) (hlt : sCap < sLen + n) (hneed : sLen + n ≤ 4000000) (hbytes : i.bytes ≤ 1000) (hz : z.cells.size = i.size)
    (hf : ∀ w1 : World, w1.heap = w.heap → (Builtin.firstCells i.size n xv).run P w1 = .ok (concL θ news).toArray w1)
    (ho : ∀ w1 : World, w1.heap = w.heap → (Builtin.firstCells i.size sLen (.slice base sLen sCap)).run P w1 = .ok (concL θ olds).toArray w1)
    (ok1 : SV.okL K olds) (ok2 : SV.okL K news) (l1 : olds.length = sLen * i.size) (l2 : news.length = n * i.size) :
    AppOut P Γ X w0 θ K h.next (Builtin.append_ tys ty args) w (newRowE ⟨t, h.next⟩ (olds ++ news) e (sLen + n) i.size) := by
  obtain ⟨c, w', hrun, g1, g2, g3, g4⟩ := append_grows (ty := ty) ha hn hlt hneed hbytes hf ho
  have hr' : Rep Γ X w0 θ K ⟨t, h.next⟩ w := hr.fewer hsub
  have hheap : w'.heap = w.heap.push (.cells (concL θ (olds ++ news) ++ (Builtin.zeroCells z.cells c).toList).toArray e (0, 0)) := by
    rw [g4]
    congr 2
    rw [← Array.toList_inj]
    simp [concL_append]
  obtain ⟨hrep, hc, hok⟩ := newRow_rep (h := ⟨t, h.next⟩) (l := olds ++ news) (e := e) (len := sLen + n) (size := i.size) (ex := (Builtin.zeroCells z.cells c).toList) (c := c) (fr := (0, 0)) hr'
    (okL_append ok1 ok2) (by rw [List.length_append, l1, l2, Nat.add_mul]) (by rw [zeroCells_len, hz]) g1 g2 g3 hheap (frOk_zero _)
  exact ⟨_, _, w', Ren.bind_ext (hr.next _ (Nat.le_refl _)), also_mono, also_fresh, by rw [hc]; exact hrun, hok, hrep⟩
theorem appendE_sound {tys : Array TypeId} {args : Array Value} {ty : TypeId} {s x : SV} {r : SV × Hp} (hq : appendE P Γ h tys.toList s x = some r) (hr : Rep Γ X w0 θ K h w) (hsok : s.ok K)
    (ha0 : args[0]? = some (conc θ s)) (ha1 : args[1]? = some (conc θ x)) : AppOut P Γ X w0 θ K h.next (Builtin.append_ tys ty args) w r := by
  unfold appendE at hq
  split at hq
  · rename_i st xt htys
    have ht0 : tys[0]? = some st := by rw [← Array.getElem?_toList, htys]; rfl
    have ht1 : tys[1]? = some xt := by rw [← Array.getElem?_toList, htys]; rfl
    split at hq
    · rename_i e xd hus hux
      have hnint : ∀ k, xd ≠ .int k := fun k he => by
        subst he
        cases hq
      have hni : isIntD xd = false := by cases xd <;> first | rfl | exact absurd rfl (hnint _)
      rw [hni] at hq
      simp only [cond_false] at hq
      split at hq
      · cases hq
      · rename_i i hinfo
        split at hq
        · rename_i z news n hzero hsrc
          cases hc : Nat.ble i.bytes 1000 && Nat.ble n 2000000 && Nat.blt 0 i.size && Nat.beq (SV.cells (.lit z)).length i.size && Nat.beq news.length (n * i.size) with
          | false => rw [hc] at hq; cases hq
          | true =>
            rw [hc] at hq
            simp only [cond_true] at hq
            simp only [Bool.and_eq_true] at hc
            obtain ⟨⟨⟨⟨c1, c2⟩, c3⟩, c4⟩, c5⟩ := hc
            have d1 := le_of_ble c1
            have d2 := le_of_ble c2
            have d3 := lt_of_blt c3
            have d5 := eq_of_beq c5
            have hz : z.cells.size = i.size := by rw [← eq_of_beq c4]; have := cells_conc θ (.lit z); simp only [conc] at this; rw [this]; simp
            obtain ⟨hlen, hfirst, hnok⟩ := srcCells_sound (P := P) hsrc hr
            have hfirst' := fun w1 hh => firstCells_heap (P := P) hsrc hr w1 hh
            have mk : ∀ base sl sc, conc θ s = .slice base sl sc → Appends P tys args st xt e i z xd (.slice base sl sc) (conc θ x) := fun base sl sc hs =>
              ⟨ht0, ht1, by rw [ha0, hs], ha1, hus, hux, hnint, hinfo, hzero⟩
            split at hq
            · -- nothing yet
              have happ := mk none 0 0 rfl
              cases hn0 : Nat.beq n 0 with
              | true =>
                rw [hn0] at hq
                simp only [cond_true, Option.some.injEq] at hq; subst hq
                have := eq_of_beq hn0; subst this
                exact ⟨θ, K, w, Ext.refl _ _, fun _ h => h, fun _ h => .inl h, append_fits (w' := w) happ hlen hfirst (Nat.le_refl _) rfl, trivial, hr⟩
              | false =>
                rw [hn0] at hq
                simp only [cond_false, Option.some.injEq] at hq; subst hq
                have hne := ne_of_beq hn0
                have := grows_out (ty := ty) (olds := []) (t := h.objs) hr (fun b o hb => hb) happ hlen (by omega) (by omega) d1 hz hfirst' (fun w1 _ => rfl) trivial hnok (by simp) d5
                simpa using this
            · -- a row of its own
              rename_i b len k cv
              cases hle : Nat.ble len 2000000 with
              | false => rw [hle] at hq; cases hq
              | true =>
                rw [hle] at hq
                have hle' := le_of_ble hle
                simp only [cond_true] at hq
                split at hq
                · rename_i l e' k' cv' size' hb
                  cases hcc : Nat.beq cv cv' && Nat.beq k k' && Nat.ble len k && Nat.beq size' i.size && Nat.beq e e' && Nat.ble (len * i.size) l.length && news.all SV.one with
                  | false => rw [hcc] at hq; cases hq
                  | true =>
                    rw [hcc] at hq
                    simp only [cond_true] at hq
                    simp only [Bool.and_eq_true] at hcc
                    obtain ⟨⟨⟨⟨⟨⟨f1, f2⟩, f3⟩, f4⟩, f5⟩, f6⟩, f7⟩ := hcc
                    have := eq_of_beq f1; subst this
                    have := eq_of_beq f2; subst this
                    have := eq_of_beq f4; subst this
                    have := eq_of_beq f5; subst this
                    have f3' := le_of_ble f3
                    have f6' := le_of_ble f6
                    have happ := mk (some ⟨θ.blk b, 0, none⟩) len (k + θ.cap cv) rfl
                    obtain ⟨hKb, hXb, hbok, ob, hw, fr, ex, rfl, hfr, hsz⟩ := hr.obj b _ hb
                    cases hn0 : Nat.beq n 0 with
                    | true =>
                      rw [hn0] at hq
                      simp only [cond_true, Option.some.injEq] at hq; subst hq
                      have := eq_of_beq hn0; subst this
                      have hnil : news = [] := List.eq_nil_of_length_eq_zero (by omega)
                      subst hnil
                      exact ⟨θ, K, w, Ext.refl _ _, fun _ h => h, fun _ h => .inl h, append_fits (w' := w) happ hlen hfirst (by omega) rfl, hsok, hr⟩
                    | false =>
                      rw [hn0] at hq
                      simp only [cond_false, Option.some.injEq] at hq; subst hq
                      have hne := ne_of_beq hn0
                      have htake : (l.take (len * i.size)).length = len * i.size := by rw [List.length_take]; omega
                      have htok : SV.okL K (l.take (len * i.size)) := okL_sub hbok.1 fun v hv => List.mem_of_mem_take hv
                      have hct : concL θ (l.take (len * i.size)) = (concL θ l).take (len * i.size) := by simp only [concL_eq, List.map_take]
                      by_cases hfit : len + n ≤ k + θ.cap cv
                      · -- in place
                        have htot : len * i.size + n * i.size ≤ (k + θ.cap cv) * i.size := by rw [← Nat.add_mul]; exact Nat.mul_le_mul_right _ hfit
                        have hst := run_storeCells_any (P := P) (off := len * i.size) (concL θ news) 0 (concL θ l ++ ex) w hw (by simp only [concL_length, Nat.add_zero, List.length_append]; omega) (by simpa using hfr) (all_one f7)
                        simp only [Nat.add_zero, concL_length] at hst
                        have hrun := append_fits (ty := ty) happ hlen hfirst hfit (w' := setB w (θ.blk b) (.cells ((concL θ l ++ ex).take (len * i.size) ++ concL θ news ++ (concL θ l ++ ex).drop (len * i.size + news.length)).toArray e fr)) (by
                          simp only [add_none, Nat.zero_add]; exact hst)
                        have hnk := hr.next h.next (Nat.le_refl _)
                        refine ⟨θ.bind h.next (θ.blk b) (k + θ.cap cv - (len + n)), also K h.next, _, Ren.bind_ext hnk, also_mono, also_fresh, ?_, ⟨.inr rfl, .inr rfl⟩, hr.move (o' := .row (l.take (len * i.size) ++ news) e (len + n) h.next i.size) (ob' := .cells ((concL θ l ++ ex).take (len * i.size) ++ concL θ news ++ (concL θ l ++ ex).drop (len * i.size + news.length)).toArray e fr) hb rfl ⟨okL_also (okL_append htok hnok), .inr rfl⟩ ⟨fr, (concL θ l ++ ex).drop (len * i.size + news.length), ?_, ?_, ?_⟩⟩
                        · rw [hrun]
                          simp only [newRowE, conc, Ren.bind_blk, Ren.bind_cap]
                          rw [show len + n + (k + θ.cap cv - (len + n)) = k + θ.cap cv by omega]
                        · rw [concL_ext (Ren.bind_ext hnk) _ (okL_append htok hnok), concL_append, hct, List.take_append_of_le_length (by simp only [concL_length]; omega)]
                        · have : (l.take (len * i.size) ++ news).length + ((concL θ l ++ ex).drop (len * i.size + news.length)).length = l.length + ex.length := by
                            simp only [List.length_append, htake, List.length_drop, concL_length]; omega
                          rw [this]; exact hfr
                        · rw [Ren.bind_cap, show len + n + (k + θ.cap cv - (len + n)) = k + θ.cap cv by omega, ← hsz]
                          simp only [List.length_append, htake, List.length_drop, concL_length]; omega
                      · -- a new one
                        have hold : ∀ w1 : World, w1.heap = w.heap → (Builtin.firstCells i.size len (.slice (some ⟨θ.blk b, 0, none⟩) len (k + θ.cap cv))).run P w1 = .ok (concL θ (l.take (len * i.size))).toArray w1 := fun w1 hh => by
                          have := run_loadCells_list (P := P) w1 ⟨θ.blk b, 0, none⟩ (concL θ (l.take (len * i.size))) (fun j v hv => by
                            rw [add_none, Nat.zero_add, World.cell?]
                            simp only [hh, hw, Option.isSome_none, Bool.false_eq_true, if_false, List.getElem?_toArray]
                            have hj := (List.getElem?_eq_some_iff.1 hv).1
                            rw [concL_length, htake] at hj
                            rw [hct, List.getElem?_take_of_lt hj] at hv
                            rw [List.getElem?_append_left (by simp only [concL_length]; omega)]
                            exact hv)
                          rw [concL_length, htake] at this
                          exact this
                        exact grows_out (ty := ty) (t := h.objs.put b none) hr (fun b' o hb' => by
                          rw [T.get_put] at hb'
                          by_cases e : b' = b
                          · rw [if_pos e] at hb'; cases hb'
                          · rw [if_neg e] at hb'; exact hb') happ hlen (by omega) (by omega) d1 hz hfirst' hold htok hnok htake d5
                · cases hq
            · -- of a known capacity
              rename_i b off len cap
              have happ := mk (some ⟨θ.blk b, off, none⟩) len cap rfl
              cases hle : Nat.ble cap 2000000 && Nat.ble len cap with
              | false => rw [hle] at hq; cases hq
              | true =>
                rw [hle] at hq
                simp only [Bool.and_eq_true] at hle
                have hle1 := le_of_ble hle.1
                have hle2 := le_of_ble hle.2
                simp only [cond_true] at hq
                cases hfit : Nat.ble (len + n) cap with
                | true =>
                  rw [hfit] at hq
                  have hfit' := le_of_ble hfit
                  simp only [cond_true] at hq
                  split at hq
                  · rename_i l e' hb
                    rw [Option.map_eq_some_iff] at hq
                    obtain ⟨l', hs, rfl⟩ := hq
                    obtain ⟨o', w', ho', _, hst, hrep⟩ := storeCells_rep (P := P) hr hb hs hnok (.inl ⟨e', rfl⟩)
                    rw [ho' e' rfl] at hrep
                    exact ⟨θ, K, w', Ext.refl _ _, fun _ h => h, fun _ h => .inl h, append_fits happ hlen hfirst hfit' (by simp only [add_none]; exact hst), hsok, hrep⟩
                  · cases hq
                | false =>
                  rw [hfit] at hq
                  have hfit' : ¬ (len + n ≤ cap) := fun hle => by rw [Nat.ble_eq_true_of_le hle] at hfit; cases hfit
                  simp only [cond_false] at hq
                  split at hq
                  · rename_i olds fs hrd
                    simp only [Option.some.injEq] at hq; subst hq
                    have hold : ∀ w1 : World, w1.heap = w.heap → (Builtin.firstCells i.size len (.slice (some ⟨θ.blk b, off, none⟩) len cap)).run P w1 = .ok (concL θ olds).toArray w1 := fun w1 hh => by
                      obtain ⟨a, ha, hl⟩ := loads_heap (P := P) hrd hr w1 hh
                      simp only [conc, Value.pointer.injEq, Option.some.injEq] at ha
                      subst ha
                      exact hl
                    exact grows_out (ty := ty) (t := h.objs) hr (fun b o hb => hb) happ hlen (by omega) (by omega) d1 hz hfirst' hold (readCells_ok hrd hr.okAll) hnok (readCells_length hrd) d5
                  · cases hq
            · cases hq
        · cases hq
    · cases hq
  · cases hq
end
open Go Go.RowKit
section
variable {P : Program} {Γ : Env} {X : Nat → Prop} {w0 : World} {θ : Ren} {K : Nat → Prop} {h : Hp} {w : World}
theorem lenOf_firstCells {size n m : Nat} {x : SV} {vs : List SV} (hq : srcCells Γ h size x = some (vs, n)) (hr : Rep Γ X w0 θ K h w) (hm : m ≤ n) (hsz : vs.length = n * size) :
    (Builtin.firstCells size m (conc θ x)).run P w = .ok (concL θ (vs.take (m * size))).toArray w := by
  have hmn : m * size ≤ n * size := Nat.mul_le_mul_right _ hm
  have hct : concL θ (vs.take (m * size)) = (concL θ vs).take (m * size) := by simp only [concL_eq, List.map_take]
  unfold srcCells at hq
  split at hq
  · rename_i p c
    simp only [Option.some.injEq, Prod.mk.injEq] at hq
    obtain ⟨rfl, rfl⟩ := hq
    rw [List.take_nil]
    obtain rfl : m = 0 := by omega
    cases p with
    | none => rfl
    | some a => simp [conc, Builtin.firstCells, loadCells, loadCellsFrom, concL]
  · rename_i s
    simp only [Option.some.injEq, Prod.mk.injEq] at hq
    obtain ⟨rfl, rfl⟩ := hq
    rw [List.length_map, Array.length_toList] at hsz
    have hdisj : s.size = 0 ∨ size = 1 := by
      have e1 : s.data.size = s.size := rfl
      rw [e1] at hsz
      rcases Nat.eq_zero_or_pos s.size with h0 | h0
      · exact .inl h0
      · right
        have : s.size * 1 = s.size * size := by omega
        exact (Nat.eq_of_mul_eq_mul_left h0 this).symm
    rw [hct]
    simp only [conc, Builtin.firstCells, Sem.run_pure]
    congr 1
    rw [← Array.toList_inj]
    rcases hdisj with h0 | rfl
    · have hm0 : m = 0 := by omega
      subst hm0
      simp
    · simp [concL_eq, List.extract_eq_take_drop]
      rfl
  · rename_i b off k c
    split at hq
    · rename_i us fs hus
      simp only [Option.some.injEq, Prod.mk.injEq] at hq
      obtain ⟨rfl, rfl⟩ := hq
      obtain ⟨a, ha, _, hc⟩ := readCells_sound (θ := θ) hus hr.globW (fun f hf => hr.fact (readCells_facts hus f hf))
      simp only [conc, Value.pointer.injEq, Option.some.injEq] at ha
      subst ha
      have := run_loadCells_list (P := P) w ⟨θ.blk b, off, none⟩ (concL θ (us.take (m * size))) (fun j v hv => by
        rw [concL_get, Option.map_eq_some_iff] at hv
        obtain ⟨y, hy, rfl⟩ := hv
        have hj : j < m * size := by
          have := (List.getElem?_eq_some_iff.1 hy).1
          rw [List.length_take] at this; omega
        rw [List.getElem?_take_of_lt hj] at hy
        exact hc j y hy)
      rw [concL_length, List.length_take, Nat.min_eq_left (by omega)] at this
      exact this
    · cases hq
  · rename_i b off k kk cv
    split at hq
    · rename_i us fs hus
      simp only [Option.some.injEq, Prod.mk.injEq] at hq
      obtain ⟨rfl, rfl⟩ := hq
      obtain ⟨a, ha, _, hc⟩ := readCells_sound (θ := θ) hus hr.globW (fun f hf => hr.fact (readCells_facts hus f hf))
      simp only [conc, Value.pointer.injEq, Option.some.injEq] at ha
      subst ha
      have := run_loadCells_list (P := P) w ⟨θ.blk b, off, none⟩ (concL θ (us.take (m * size))) (fun j v hv => by
        rw [concL_get, Option.map_eq_some_iff] at hv
        obtain ⟨y, hy, rfl⟩ := hv
        have hj : j < m * size := by
          have := (List.getElem?_eq_some_iff.1 hy).1
          rw [List.length_take] at this; omega
        rw [List.getElem?_take_of_lt hj] at hy
        exact hc j y hy)
      rw [concL_length, List.length_take, Nat.min_eq_left (by omega)] at this
      exact this
    · cases hq
  · rename_i g off k cc _
    split at hq
    · rename_i us fs hus
      simp only [Option.some.injEq, Prod.mk.injEq] at hq
      obtain ⟨rfl, rfl⟩ := hq
      obtain ⟨a, ha, _, hc⟩ := readCells_sound (θ := θ) hus hr.globW (fun f hf => hr.fact (readCells_facts hus f hf))
      simp only [conc, Value.pointer.injEq, Option.some.injEq] at ha
      subst ha
      have := run_loadCells_list (P := P) w ⟨g, off, none⟩ (concL θ (us.take (m * size))) (fun j v hv => by
        rw [concL_get, Option.map_eq_some_iff] at hv
        obtain ⟨y, hy, rfl⟩ := hv
        have hj : j < m * size := by
          have := (List.getElem?_eq_some_iff.1 hy).1
          rw [List.length_take] at this; omega
        rw [List.getElem?_take_of_lt hj] at hy
        exact hc j y hy)
      rw [concL_length, List.length_take, Nat.min_eq_left (by omega)] at this
      exact this
    · cases hq
  · cases hq
theorem copyE_sound {tys : Array TypeId} {args : Array Value} {ty t : TypeId} {d s : SV} {r : SV × Hp} (hq : copyE P Γ h t d s = some r) (hr : Rep Γ X w0 θ K h w) (ht : tys[0]? = some t)
    (ha0 : args[0]? = some (conc θ d)) (ha1 : args[1]? = some (conc θ s)) : AppOut P Γ X w0 θ K h.next (Builtin.copy_ tys ty args) w r := by
  unfold copyE at hq
  split at hq
  · rename_i e hu
    split at hq
    · rename_i size hs
      split at hq
      · rename_i vs n c hsrc
        simp only [Option.some.injEq] at hq; subst hq
        obtain ⟨hlen, _, _⟩ := srcCells_sound (P := P) hsrc hr
        have hmin : Nat.min n 0 = 0 := Nat.min_zero n
        have h0 : (Builtin.firstCells size 0 (conc θ s)).run P w = .ok #[] w := by
          unfold srcCells at hsrc
          split at hsrc
          · rename_i p c _
            cases p with
            | none => rfl
            | some a => simp [conc, Builtin.firstCells, loadCells, loadCellsFrom]
          · simp [conc, Builtin.firstCells]
          · simp [conc, Builtin.firstCells, loadCells, loadCellsFrom]
          · simp [conc, Builtin.firstCells, loadCells, loadCellsFrom]
          · simp [conc, Builtin.firstCells, loadCells, loadCellsFrom]
          · cases hsrc
        refine ⟨θ, K, w, Ext.refl _ _, fun _ h => h, fun _ h => .inl h, ?_, trivial, hr⟩
        simp only [Builtin.copy_, ht, ha0, ha1, conc, Sem.run_bind, r_underlying hu w, Result.andThen, hlen, hmin, r_sizeOf hs w, h0, Sem.run_pure]
        rfl
      · rename_i vs n b off dlen c hsrc
        split at hq
        · rename_i l e' hb
          cases hvl : Nat.beq vs.length (n * size) with
          | false => rw [hvl] at hq; cases hq
          | true =>
            rw [hvl] at hq
            simp only [cond_true] at hq
            rw [Option.map_eq_some_iff] at hq
            obtain ⟨l', hsp, rfl⟩ := hq
            obtain ⟨hlen, _, hvok⟩ := srcCells_sound (P := P) hsrc hr
            have hfc : (Builtin.firstCells size (Nat.min n dlen) (conc θ s)).run P w = .ok (concL θ (vs.take (Nat.min n dlen * size))).toArray w := lenOf_firstCells hsrc hr (Nat.min_le_left n dlen) (eq_of_beq hvl)
            obtain ⟨o', w', ho', _, hst, hrep⟩ := storeCells_rep (P := P) hr hb hsp (okL_sub hvok fun v hv => List.mem_of_mem_take hv) (.inl ⟨e', rfl⟩)
            rw [ho' e' rfl] at hrep
            refine ⟨θ, K, w', Ext.refl _ _, fun _ h => h, fun _ h => .inl h, ?_, trivial, hrep⟩
            simp only [Builtin.copy_, ht, ha0, ha1, conc, Sem.run_bind, r_underlying hu w, Result.andThen, hlen, r_sizeOf hs w, hfc, hst, Sem.run_pure]
        · cases hq
      · rename_i vs n b off dlen kk cv hsrc
        split at hq
        · rename_i l e' k' cv' s' hb
          cases hvl : Nat.beq vs.length (n * size) with
          | false => rw [hvl] at hq; cases hq
          | true =>
            rw [hvl] at hq
            simp only [cond_true] at hq
            rw [Option.map_eq_some_iff] at hq
            obtain ⟨l', hsp, rfl⟩ := hq
            obtain ⟨hlen, _, hvok⟩ := srcCells_sound (P := P) hsrc hr
            have hfc : (Builtin.firstCells size (Nat.min n dlen) (conc θ s)).run P w = .ok (concL θ (vs.take (Nat.min n dlen * size))).toArray w := lenOf_firstCells hsrc hr (Nat.min_le_left n dlen) (eq_of_beq hvl)
            obtain ⟨o', w', _, ho', hst, hrep⟩ := storeCells_rep (P := P) hr hb hsp (okL_sub hvok fun v hv => List.mem_of_mem_take hv) (.inr ⟨e', k', cv', s', rfl⟩)
            rw [ho' e' k' cv' s' rfl] at hrep
            refine ⟨θ, K, w', Ext.refl _ _, fun _ h => h, fun _ h => .inl h, ?_, trivial, hrep⟩
            simp only [Builtin.copy_, ht, ha0, ha1, conc, Sem.run_bind, r_underlying hu w, Result.andThen, hlen, r_sizeOf hs w, hfc, hst, Sem.run_pure]
        · cases hq
      · cases hq
    · cases hq
  · cases hq
theorem mark_cells {b off : Nat} {o : AObj} {ob : Obj} (hw : w.heap[θ.blk b]? = some ob) (hO : ORep θ o ob) (ho : (∃ l e, o = .cells l e) ∨ (∃ l e k cv s, o = .row l e k cv s)) :
    ∃ w2, (markStringish ⟨θ.blk b, off, none⟩).run P w = .ok () w2 ∧ ∃ ob', w2 = setB w (θ.blk b) ob' ∧ ORep θ o ob' := by
  have key : ∀ (c : Array Value) (e : TypeId) (fr : Nat × Nat), ob = .cells c e fr → frOk fr c.size → ∃ fr' : Nat × Nat, frOk fr' c.size ∧ (markStringish ⟨θ.blk b, off, none⟩).run P w = .ok () (setB w (θ.blk b) (.cells c e fr')) := by
    intro c e fr he hfr
    subst he
    have hlt := (Array.getElem?_eq_some_iff.1 hw).1
    obtain ⟨lo, hi⟩ := fr
    refine ⟨if lo == hi then (c.size, c.size + 1) else (min lo c.size, max hi (c.size + 1)), ?_, ?_⟩
    · by_cases h : lo = hi
      · subst h; simp [frOk]
      · have hne : (lo == hi) = false := by simpa using h
        rw [hne]
        rcases hfr with hfr | hfr
        · exact absurd hfr h
        · right; simp only [Bool.false_eq_true, if_false]; exact Nat.le_min.2 ⟨hfr, Nat.le_refl _⟩
    · have hshape : w.shape? (θ.blk b) = some (e, c.size) := by simp [World.shape?, hw]
      simp only [markStringish, Sem.run_bind, run_shape, hshape, Result.andThen, run_freeze]
      congr 1
      have : (w.freeze { block := θ.blk b, off := c.size } 1).heap = (setB w (θ.blk b) (.cells c e (if lo == hi then (c.size, c.size + 1) else (min lo c.size, max hi (c.size + 1))))).heap := Array.ext_getElem? fun k => by
        rw [setB_get]
        simp only [World.freeze, Nat.succ_ne_zero, if_false, Array.getElem?_modify]
        by_cases hk : θ.blk b = k
        · subst hk
          rw [if_pos rfl, if_pos ⟨rfl, hlt⟩, hw]
          simp
        · rw [if_neg hk, if_neg (fun e => hk e.1.symm)]
      simp only [World.freeze, Nat.succ_ne_zero, if_false, setB] at this ⊢
      rw [this]
  rcases ho with ⟨l, e, rfl⟩ | ⟨l, e, k, cv, s, rfl⟩
  · obtain ⟨fr, rfl, hfr⟩ := hO
    obtain ⟨fr', h1, h2⟩ := key _ _ _ rfl (by simpa using hfr)
    exact ⟨_, h2, _, rfl, fr', rfl, by simpa using h1⟩
  · obtain ⟨fr, ex, rfl, hfr, hsz⟩ := hO
    obtain ⟨fr', h1, h2⟩ := key _ _ _ rfl (by simpa using hfr)
    exact ⟨_, h2, _, rfl, fr', ex, rfl, by simpa using h1, hsz⟩
theorem bytesE_sound {s d : TypeId} {x : SV} {r : SV × Hp} (hq : bytesE P h s d x = some r) (hr : Rep Γ X w0 θ K h w) (hxok : x.ok K) : AppOut P Γ X w0 θ K h.next (convert s d (conc θ x)) w r := by
  unfold bytesE at hq
  split at hq
  · rename_i e t hs hd
    split at hq
    · rename_i he
      simp only [Option.some.injEq] at hq; subst hq
      have hnk := hr.next h.next (Nat.le_refl _)
      let c := w.tape w.drawn (.appendCap t.size 0 e) % (2 ^ 63 - t.size)
      let cs : List SV := t.data.toList.map fun b => .lit (.int .u8 b.toNat)
      let ex : List Value := List.replicate c (.int .u8 0)
      have hcs : cs.length = t.size := by simp only [cs, List.length_map, Array.length_toList]; rfl
      have hok : SV.okL K cs := (okL_iff _ _).2 fun v hv => by obtain ⟨y, _, rfl⟩ := List.mem_map.1 hv; trivial
      have harr : (t.data.map fun b => Value.int .u8 b.toNat) ++ Array.replicate c (.int .u8 0) = (concL θ cs ++ ex).toArray := by
        rw [← Array.toList_inj]
        simp [cs, ex, concL_eq, Function.comp, conc]
      have hcut : Question.cut (.appendCap t.size 0 e) (w.tape w.drawn (.appendCap t.size 0 e)) = t.size + c := rfl
      have hfo : Question.forced (.appendCap t.size 0 e) = false := rfl
      let w1 : World := { w.drew with heap := w.heap.push (.cells (concL θ cs ++ ex).toArray e (0, 0)) }
      let n := (concL θ cs ++ ex).length
      have hshape : w1.shape? w.heap.size = some (e, n) := by simp [World.shape?, w1, n]
      let w2 : World := { w.drew with heap := w.heap.push (.cells (concL θ cs ++ ex).toArray e (n, n + 1)) }
      have hfz : w1.freeze { block := w.heap.size, off := n } 1 = w2 := by
        have : (w1.freeze { block := w.heap.size, off := n } 1).heap = w2.heap := Array.ext_getElem? fun k => by
          simp only [World.freeze, Nat.succ_ne_zero, if_false, w1, w2, Array.getElem?_modify, Array.getElem?_push]
          by_cases hk : k = w.heap.size
          · subst hk; simp
          · rw [if_neg (fun e => hk e.symm), if_neg hk, if_neg hk]
        simp only [World.freeze, Nat.succ_ne_zero, if_false] at this ⊢
        simp only [w2] at this ⊢
        rw [this]
      obtain ⟨hrep, hc, hok'⟩ := newRow_rep (h := h) (w1 := w2) (l := cs) (e := e) (len := t.size) (size := 1) (ex := ex) (c := c) (fr := (n, n + 1)) hr hok (by rw [hcs, Nat.mul_one]) (by simp [ex]) rfl rfl rfl rfl
        (.inr (by simp only [n, List.length_append, concL_length]; exact Nat.le_refl _))
      refine ⟨_, _, w2, Ren.bind_ext hnk, also_mono, also_fresh, ?_, hok', hrep⟩
      rw [hc]
      simp only [convert, conc, Sem.run_bind, r_underlying hs w, r_underlying hd w, Result.andThen, r_underlying he w, Conv.stringToBytes, run_choose, hfo, Bool.false_eq_true, if_false, hcut, World.drew_eq, newRow, run_newObj, Sem.run_pure, Nat.add_sub_cancel_left, harr]
      have hms : (markStringish ⟨w.heap.size, 0, none⟩).run P w1 = .ok () w2 := by
        simp only [markStringish, Sem.run_bind, run_shape, hshape, Result.andThen, run_freeze, hfz]
      have hms' : (markStringish ⟨w.drew.heap.size, 0, none⟩).run P { w.drew with heap := w.drew.heap.push (.cells (concL θ cs ++ ex).toArray e) } = .ok () w2 := hms
      rw [hms']
      rfl
    · cases hq
  · rename_i e0 e b off n c hs hd
    split at hq
    · rename_i l e' hsd he hb
      simp only [Option.some.injEq] at hq; subst hq
      have hsd' := eq_of_beq hsd
      obtain ⟨hKb, _, hok, ob, hw, hO0⟩ := hr.obj b _ hb
      obtain ⟨w2, hm, ob', rfl, hO⟩ := mark_cells (P := P) (θ := θ) (o := .cells l e') (off := off) hw hO0 (.inl ⟨l, e', rfl⟩)
      refine ⟨θ, K, _, Ext.refl _ _, fun _ h => h, fun _ h => .inl h, ?_, hKb, hr.turn hb hok hO⟩
      have hbeq : (s == d) = true := by rw [hsd']; exact BEq.rfl
      simp only [convert, conc, Sem.run_bind, r_underlying hs w, r_underlying hd w, Result.andThen, r_underlying he w, hbeq, hm, Sem.run_pure]
    · rename_i l e' k cv z hsd he hb
      simp only [Option.some.injEq] at hq; subst hq
      have hsd' := eq_of_beq hsd
      obtain ⟨hKb, _, hok, ob, hw, hO0⟩ := hr.obj b _ hb
      obtain ⟨w2, hm, ob', rfl, hO⟩ := mark_cells (P := P) (θ := θ) (o := .row l e' k cv z) (off := off) hw hO0 (.inr ⟨l, e', k, cv, z, rfl⟩)
      refine ⟨θ, K, _, Ext.refl _ _, fun _ h => h, fun _ h => .inl h, ?_, hKb, hr.turn hb hok hO⟩
      have hbeq : (s == d) = true := by rw [hsd']; exact BEq.rfl
      simp only [convert, conc, Sem.run_bind, r_underlying hs w, r_underlying hd w, Result.andThen, r_underlying he w, hbeq, hm, Sem.run_pure]
    · cases hq
  · rename_i e0 e b off n k' cv' hs hd
    split at hq
    · rename_i l e' hsd he hb
      simp only [Option.some.injEq] at hq; subst hq
      have hsd' := eq_of_beq hsd
      obtain ⟨hKb, _, hok, ob, hw, hO0⟩ := hr.obj b _ hb
      obtain ⟨w2, hm, ob', rfl, hO⟩ := mark_cells (P := P) (θ := θ) (o := .cells l e') (off := off) hw hO0 (.inl ⟨l, e', rfl⟩)
      refine ⟨θ, K, _, Ext.refl _ _, fun _ h => h, fun _ h => .inl h, ?_, hxok, hr.turn hb hok hO⟩
      have hbeq : (s == d) = true := by rw [hsd']; exact BEq.rfl
      simp only [convert, conc, Sem.run_bind, r_underlying hs w, r_underlying hd w, Result.andThen, r_underlying he w, hbeq, hm, Sem.run_pure]
    · rename_i l e' k cv z hsd he hb
      simp only [Option.some.injEq] at hq; subst hq
      have hsd' := eq_of_beq hsd
      obtain ⟨hKb, _, hok, ob, hw, hO0⟩ := hr.obj b _ hb
      obtain ⟨w2, hm, ob', rfl, hO⟩ := mark_cells (P := P) (θ := θ) (o := .row l e' k cv z) (off := off) hw hO0 (.inr ⟨l, e', k, cv, z, rfl⟩)
      refine ⟨θ, K, _, Ext.refl _ _, fun _ h => h, fun _ h => .inl h, ?_, hxok, hr.turn hb hok hO⟩
      have hbeq : (s == d) = true := by rw [hsd']; exact BEq.rfl
      simp only [convert, conc, Sem.run_bind, r_underlying hs w, r_underlying hd w, Result.andThen, r_underlying he w, hbeq, hm, Sem.run_pure]
    · cases hq
  · cases hq
theorem entryE_sound {it : SV} {r : SV × Hp} (hq : entryE h it = some r) (hr : Rep Γ X w0 θ K h w) : AppOut P Γ X w0 θ K h.next (Instr.entry (conc θ it)) w r := by
  unfold entryE at hq
  split at hq
  · rename_i b
    split at hq
    · rename_i m since seen last hb
      split at hq
      · rename_i stamp es clock hs hm
        cases hc : Nat.beq clock last with
        | false => rw [hc] at hq; cases hq
        | true =>
          rw [hc] at hq
          simp only [cond_true] at hq
          have hcl := eq_of_beq hc
          subst hcl
          split at hq
          · rename_i e he
            simp only [Option.some.injEq] at hq; subst hq
            obtain ⟨_, _, _, ob, hw, hO⟩ := hr.obj b _ hb
            simp only [ORep, Option.map_some] at hO
            subst hO
            obtain ⟨hg, _⟩ := hr.other (P := P) hb hw (fun _ _ _ he => by cases he)
            obtain ⟨hgm, _⟩ := hr.map (P := P) hm
            have hmok := hr.okAll m _ hm
            have hback : seen.toArray.back? = some stamp := by rw [← hs]; simp
            have hfind : (es.map (entryC θ)).toArray.find? (fun x => x.born == stamp) = some (entryC θ e) := by
              rw [List.find?_toArray, List.find?_map]
              have : ((fun x : MapEntry => x.born == stamp) ∘ entryC θ) = fun e => Nat.beq e.2.2 stamp := by
                funext x
                show (x.2.2 == stamp) = Nat.beq x.2.2 stamp
                rw [Bool.eq_iff_iff]; simp [Nat.beq_eq]
              rw [this, he]; rfl
            have hin := List.mem_of_find?_eq_some he
            refine ⟨θ, K, w, Ext.refl _ _, fun _ h => h, fun _ h => .inl h, ?_, ⟨(hmok e hin).1, (hmok e hin).2, trivial⟩, hr⟩
            simp only [Instr.entry, conc, Sem.run_bind, hg, Result.andThen, hback, hgm, bne_self_eq_false, Bool.false_eq_true, if_false, hfind, Sem.run_pure]
            rfl
          · cases hq
      · cases hq
    · cases hq
  · cases hq
end
open Go Go.RowKit
section
variable {P : Program} {Γ : Env} {X : Nat → Prop} {w0 : World} {θ : Ren} {K : Nat → Prop} {h : Hp} {w : World}
theorem val_spec {o : Option (SV × Hp)} {outs : List (SV × Hp)} (hq : val o = some outs) : ∃ r, o = some r ∧ outs = [r] := by
  unfold val at hq
  rw [Option.map_eq_some_iff] at hq
  obtain ⟨r, hr, he⟩ := hq
  exact ⟨r, hr, he.symm⟩
theorem unit_spec {o : Option Hp} {outs : List (SV × Hp)} (hq : unit o = some outs) : ∃ r, o = some r ∧ outs = [(.lit undef, r)] := by
  unfold unit at hq
  rw [Option.map_eq_some_iff] at hq
  obtain ⟨r, hr, he⟩ := hq
  exact ⟨r, hr, he.symm⟩
theorem done_spec {o : Option Hp} {outs : List (SV × Hp)} (hq : done o = some outs) : ∃ r, o = some r ∧ outs = [(.lit (.tuple #[]), r)] := by
  unfold done at hq
  rw [Option.map_eq_some_iff] at hq
  obtain ⟨r, hr, he⟩ := hq
  exact ⟨r, hr, he.symm⟩
theorem Eff.ofApp {s : Sem Value} {r : SV × Hp} (ha : AppOut P Γ X w0 θ K h.next s w r) : Eff P Γ X w0 θ K h.next (do pure (.value (← s))) w [r] := by
  obtain ⟨θ', K', w', he, hk, hfresh, hrun, hok, hrep⟩ := ha
  exact ⟨r, List.mem_singleton.2 rfl, θ', K', w', _, he, hk, hfresh, by simp only [Sem.run_bind, hrun, Result.andThen, Sem.run_pure], .inl rfl, hok, hrep⟩
theorem Eff.ofUnit {s : Sem Unit} {h' : Hp} (ha : ∃ w', s.run P w = .ok () w' ∧ Rep Γ X w0 θ K h' w') : Eff P Γ X w0 θ K h.next (do s; pure .skip) w [(.lit undef, h')] := by
  obtain ⟨w', hrun, hrep⟩ := ha
  exact ⟨_, List.mem_singleton.2 rfl, θ, K, w', _, Ext.refl _ _, fun _ h => h, fun _ h => .inl h, by simp only [Sem.run_bind, hrun, Result.andThen, Sem.run_pure], .inr ⟨rfl, rfl⟩, trivial, hrep⟩
theorem Eff.ofDone {s : Sem Value} {h' : Hp} (ha : ∃ w', s.run P w = .ok (.tuple #[]) w' ∧ Rep Γ X w0 θ K h' w') : Eff P Γ X w0 θ K h.next (do pure (.value (← s))) w [(.lit (.tuple #[]), h')] := by
  obtain ⟨w', hrun, hrep⟩ := ha
  exact ⟨_, List.mem_singleton.2 rfl, θ, K, w', .value (.tuple #[]), Ext.refl _ _, fun _ h => h, fun _ h => .inl h, by simp only [Sem.run_bind, hrun, Result.andThen, Sem.run_pure], .inl rfl, trivial, hrep⟩
theorem args_two {args : Array Operand} {x y : Operand} (h : args.toList = [x, y]) (f : Operand → Value) : (args.map f)[0]? = some (f x) ∧ (args.map f)[1]? = some (f y) := by
  constructor
  · rw [Array.getElem?_map, ← Array.getElem?_toList, h]; rfl
  · rw [Array.getElem?_map, ← Array.getElem?_toList, h]; rfl
theorem args_one {args : Array Operand} {x : Operand} (h : args.toList = [x]) (f : Operand → Value) : (args.map f)[0]? = some (f x) := by
  rw [Array.getElem?_map, ← Array.getElem?_toList, h]; rfl
theorem builtin_run {ρ : Operand → Value} {o : Oper} {b : Builtin} {args : Array Operand} {tys : Array TypeId} (ho : o.op = .call ⟨.builtin b, args, tys⟩) :
    (execOp ρ o) = builtin b tys o.type (args.map fun | .const _ => true | _ => false) (args.map ρ) := by
  simp only [execOp, ho, resolve, invoke]
  rfl
theorem effect_sound {ρ : Operand → SV} {o : Oper} {outs : List (SV × Hp)} (hq : effect P Γ h ρ o.op = some outs) (hr : Rep Γ X w0 θ K h w) (hρ : ∀ x ∈ o.op.operands, (ρ x).ok K) :
    Eff P Γ X w0 θ K h.next (execOp (fun x => conc θ (ρ x)) o) w outs := by
  have hnk := hr.next h.next (Nat.le_refl _)
  unfold effect at hq
  split at hq
  · rename_i t a x ho
    obtain ⟨h', h1, rfl⟩ := unit_spec hq
    simp only [execOp, ho]
    exact Eff.ofUnit (storeE_sound h1 hr (hρ x (by simp [ho, Op.operands])))
  · rename_i e ho
    obtain ⟨r, h1, rfl⟩ := val_spec hq
    rw [Option.map_eq_some_iff] at h1
    obtain ⟨z, hz, rfl⟩ := h1
    simp only [execOp, ho]
    refine Eff.ofApp ⟨θ.bind h.next w.heap.size 0, also K h.next, w.alloc (.cells z.cells e), Ren.bind_ext hnk, also_mono, also_fresh, ?_, .inr rfl, ?_⟩
    · rw [alloc_sound hz w]; simp only [Hp.new, conc, Ren.bind_blk]
    · have := newCells_rep (e := e) hr (cells_ok (v := .lit z) (K := K) trivial)
      rw [← cells_conc θ (.lit z)] at this
      exact this
  · rename_i e x ho
    simp only [Option.some.injEq] at hq; subst hq
    simp only [execOp, ho]
    refine Eff.ofApp ⟨θ.bind h.next w.heap.size 0, also K h.next, w.alloc (.cells (conc θ (ρ x)).cells e), Ren.bind_ext hnk, also_mono, also_fresh, ?_, .inr rfl, ?_⟩
    · simp only [Instr.box, newVar, newRow, Sem.run_bind, run_newObj, Result.andThen, Sem.run_pure, World.alloc_eq, Hp.new, conc, Ren.bind_blk]
    · have := newCells_rep (e := e) hr (cells_ok (hρ x (by simp [ho, Op.operands])))
      rw [← cells_conc θ (ρ x)] at this
      exact this
  · rename_i t len parts ho
    obtain ⟨r, h1, rfl⟩ := val_spec hq
    have he : (parts.map fun (x : Nat × Operand) => (x.1, conc θ (ρ x.2))) = ((parts.toList.map fun p => (p.1, ρ p.2)).map fun p => (p.1, conc θ p.2)).toArray := by
      rw [← Array.toList_inj]; simp
    simp only [execOp, ho]
    rw [he]
    refine Eff.ofApp (buildSliceE_sound h1 hr fun p hp => ?_)
    obtain ⟨q, hq, rfl⟩ := List.mem_map.1 hp
    refine hρ _ ?_
    simp only [ho, Op.operands, List.mem_toArray, List.mem_map]
    exact ⟨q, hq, rfl⟩
  · rename_i t ho
    split at hq
    · rename_i k e hu
      simp only [Option.some.injEq] at hq; subst hq
      simp only [execOp, ho, Option.map_none]
      refine Eff.ofApp ⟨θ.bind h.next w.heap.size 0, also K h.next, w.alloc (.map #[] 0), Ren.bind_ext hnk, also_mono, also_fresh, ?_, .inr rfl, newMap_rep hr⟩
      simp only [Instr.makeMap, Sem.run_bind, run_newObj, Result.andThen, Sem.run_pure, World.alloc_eq, Hp.new, conc, Ren.bind_blk]
    · cases hq
  · rename_i t x ho
    split at hq
    · rename_i k e ik n hu hx
      simp only [Option.some.injEq] at hq; subst hq
      simp only [execOp, ho, Option.map_some, hx, conc]
      refine Eff.ofApp ⟨θ.bind h.next w.heap.size 0, also K h.next, w.alloc (.map #[] 0), Ren.bind_ext hnk, also_mono, also_fresh, ?_, .inr rfl, newMap_rep hr⟩
      simp only [Instr.makeMap, Sem.run_bind, r_underlying hu w, asInt, asIntOf, run_newObj, Result.andThen, Sem.run_pure, World.alloc_eq, Hp.new, conc, Ren.bind_blk]
    · cases hq
  · rename_i t l c ho
    obtain ⟨r, h1, rfl⟩ := val_spec hq
    simp only [execOp, ho]
    exact Eff.ofApp (makeSliceE_sound h1 hr)
  · rename_i t m k x ho
    obtain ⟨h', h1, rfl⟩ := unit_spec hq
    simp only [execOp, ho]
    exact Eff.ofUnit (mapUpdateE_sound h1 hr (hρ k (by simp [ho, Op.operands])) (hρ x (by simp [ho, Op.operands])))
  · rename_i t m k x ho
    obtain ⟨h', h1, rfl⟩ := unit_spec hq
    simp only [execOp, ho]
    exact Eff.ofUnit (mapUpdateE_sound h1 hr (hρ k (by simp [ho, Op.operands])) (hρ x (by simp [ho, Op.operands])))
  · rename_i t x ho
    obtain ⟨r, h1, rfl⟩ := val_spec hq
    simp only [execOp, ho]
    exact Eff.ofApp (rangeE_sound h1 hr)
  · rename_i it isS ho
    obtain ⟨r, hm, w', hrun, hok, hrep⟩ := nextE_sound (P := P) (ty := o.type) hq hr
    simp only [execOp, ho]
    exact ⟨r, hm, θ, K, w', _, Ext.refl _ _, fun _ h => h, fun _ h => .inl h, by simp only [Sem.run_bind, hrun, Result.andThen, Sem.run_pure], .inl rfl, hok, hrep⟩
  · rename_i it ho
    obtain ⟨r, h1, rfl⟩ := val_spec hq
    simp only [execOp, ho]
    exact Eff.ofApp (entryE_sound h1 hr)
  · rename_i s d x ho
    obtain ⟨r, h1, rfl⟩ := val_spec hq
    simp only [execOp, ho]
    exact Eff.ofApp (bytesE_sound h1 hr (hρ x (by simp [ho, Op.operands])))
  · rename_i args tys ho
    split at hq
    · rename_i s x hargs
      obtain ⟨r, h1, rfl⟩ := val_spec hq
      obtain ⟨a0, a1⟩ := args_two hargs fun x => conc θ (ρ x)
      rw [builtin_run ho]
      simp only [builtin]
      refine Eff.ofApp (appendE_sound h1 hr (hρ s ?_) a0 a1)
      simp only [ho, Op.operands, Call.operands, Array.mem_append]
      exact .inr (by rw [← Array.mem_toList_iff, hargs]; exact List.mem_cons_self ..)
    · cases hq
  · rename_i args tys ho
    split at hq
    · rename_i d s t hargs ht
      obtain ⟨r, h1, rfl⟩ := val_spec hq
      obtain ⟨a0, a1⟩ := args_two hargs fun x => conc θ (ρ x)
      rw [builtin_run ho]
      simp only [builtin]
      exact Eff.ofApp (copyE_sound h1 hr ht a0 a1)
    · cases hq
  · rename_i args tys ho
    split at hq
    · rename_i m k t hargs ht
      obtain ⟨h', h1, rfl⟩ := done_spec hq
      obtain ⟨a0, a1⟩ := args_two hargs fun x => conc θ (ρ x)
      rw [builtin_run ho]
      simp only [builtin]
      exact Eff.ofDone (deleteE_sound h1 hr ht a0 a1)
    · cases hq
  · rename_i args tys ho
    split at hq
    · rename_i x t hargs ht
      obtain ⟨h', h1, rfl⟩ := done_spec hq
      have a0 := args_one hargs fun x => conc θ (ρ x)
      rw [builtin_run ho]
      simp only [builtin]
      exact Eff.ofDone (clearE_sound h1 hr ht a0)
    · cases hq
  · cases hq
theorem localE_sound {ρ : Operand → SV} {o : Oper} {v : SV} {b nx : Nat} {ob : AObj} {hv : Hp} (hq : localE P hv ρ o.op = some (v, b, ob, nx)) :
    (b = hv.next ∧ nx = hv.next + 1 ∧ v.ok (· = hv.next) ∧ (∀ K : Nat → Prop, (∀ x ∈ o.op.operands, (ρ x).ok K) → ob.ok K) ∧ ∀ (θ : Ren) (w : World), ∃ ob' : Obj, (execOp (fun x => conc θ (ρ x)) o).run P w = .ok (.value (conc (θ.bind hv.next w.heap.size 0) v)) (w.alloc ob') ∧ ORep θ ob ob') ∨
    (nx = hv.next ∧ v = .lit undef ∧ ∃ old, hv.objs.get b = some old ∧ ∀ (X : Nat → Prop) (w0 : World) (θ : Ren) (K : Nat → Prop) (h : Hp) (w : World), Rep Γ X w0 θ K h w → h.objs.get b = some old → (∀ x ∈ o.op.operands, (ρ x).ok K) →
      ∃ w', (execOp (fun x => conc θ (ρ x)) o).run P w = .ok .skip w' ∧ Rep Γ X w0 θ K (h.upd b ob) w') := by
  unfold localE at hq
  split at hq
  · rename_i e ho
    rw [Option.map_eq_some_iff] at hq
    obtain ⟨z, hz, he⟩ := hq
    simp only [Prod.mk.injEq] at he
    obtain ⟨rfl, rfl, rfl, rfl⟩ := he
    refine .inl ⟨rfl, rfl, rfl, fun K _ => cells_ok (v := .lit z) trivial, fun θ w => ⟨.cells z.cells e, ?_, ⟨(0, 0), by rw [← cells_conc θ (.lit z)]; rfl, frOk_zero _⟩⟩⟩
    simp only [execOp, ho, Sem.run_bind, alloc_sound hz w, Result.andThen, Sem.run_pure, conc, Ren.bind_blk]
  · rename_i e x ho
    simp only [Option.some.injEq, Prod.mk.injEq] at hq
    obtain ⟨rfl, rfl, rfl, rfl⟩ := hq
    refine .inl ⟨rfl, rfl, rfl, fun K hρ => cells_ok (hρ x (by simp [ho, Op.operands])), fun θ w => ⟨.cells (conc θ (ρ x)).cells e, ?_, ⟨(0, 0), by rw [cells_conc θ (ρ x)], frOk_zero _⟩⟩⟩
    simp only [execOp, ho, Instr.box, newVar, newRow, Sem.run_bind, run_newObj, Result.andThen, Sem.run_pure, World.alloc_eq, conc, Ren.bind_blk]
  · rename_i t ho
    split at hq
    · rename_i k e hu
      simp only [Option.some.injEq, Prod.mk.injEq] at hq
      obtain ⟨rfl, rfl, rfl, rfl⟩ := hq
      refine .inl ⟨rfl, rfl, rfl, fun K _ e he => (by cases he), fun θ w => ⟨.map #[] 0, ?_, rfl⟩⟩
      simp only [execOp, ho, Option.map_none, Instr.makeMap, Sem.run_bind, run_newObj, Result.andThen, Sem.run_pure, World.alloc_eq, conc, Ren.bind_blk]
    · cases hq
  · rename_i t x ho
    split at hq
    · rename_i k e ik n hu hx
      simp only [Option.some.injEq, Prod.mk.injEq] at hq
      obtain ⟨rfl, rfl, rfl, rfl⟩ := hq
      refine .inl ⟨rfl, rfl, rfl, fun K _ e he => (by cases he), fun θ w => ⟨.map #[] 0, ?_, rfl⟩⟩
      simp only [execOp, ho, Option.map_some, hx, Instr.makeMap, Sem.run_bind, r_underlying hu w, asInt, asIntOf, run_newObj, Result.andThen, Sem.run_pure, World.alloc_eq, conc, Ren.bind_blk]
    · cases hq
  · rename_i t a x ho
    split at hq
    · rename_i n b' off hn ha
      cases hbe : Nat.beq (ρ x).cells.length n with
      | false => rw [hbe] at hq; cases hq
      | true =>
        rw [hbe] at hq
        simp only [cond_true] at hq
        split at hq
        · rename_i l e hb
          rw [Option.map_eq_some_iff] at hq
          obtain ⟨l', hs, he⟩ := hq
          simp only [Prod.mk.injEq] at he
          obtain ⟨rfl, rfl, rfl, rfl⟩ := he
          refine .inr ⟨rfl, rfl, _, hb, fun X w0 θ K h w hr hb' hok => ?_⟩
          have hse : storeE P h t (ρ a) (ρ x) = some (h.upd b' (.cells l' e)) := by
            simp only [storeE, hn, ha, hbe, cond_true, hb', hs, Option.map_some]
          obtain ⟨w', hrun, hrep⟩ := storeE_sound hse hr (hok x (by simp [ho, Op.operands]))
          exact ⟨w', by simp only [execOp, ho, Sem.run_bind, hrun, Result.andThen, Sem.run_pure], hrep⟩
        · rename_i l e k cv s hb
          rw [Option.map_eq_some_iff] at hq
          obtain ⟨l', hs, he⟩ := hq
          simp only [Prod.mk.injEq] at he
          obtain ⟨rfl, rfl, rfl, rfl⟩ := he
          refine .inr ⟨rfl, rfl, _, hb, fun X w0 θ K h w hr hb' hok => ?_⟩
          have hse : storeE P h t (ρ a) (ρ x) = some (h.upd b' (.row l' e k cv s)) := by
            simp only [storeE, hn, ha, hbe, cond_true, hb', hs, Option.map_some]
          obtain ⟨w', hrun, hrep⟩ := storeE_sound hse hr (hok x (by simp [ho, Op.operands]))
          exact ⟨w', by simp only [execOp, ho, Sem.run_bind, hrun, Result.andThen, Sem.run_pure], hrep⟩
        · cases hq
    · cases hq
  · cases hq
end
open Go Go.RowKit
def NoCount (P : Program) : Prop := ∀ (f : Nat) (fn : Func), P.funcs[f]? = some fn → (fn.name == "runtime.NumGoroutine") = false
def G (r : Option Nat) : Fence := { Fence.wide with round := r }
theorem G_fn (r : Option Nat) (f : FuncId) : (G r).fn f := trivial
theorem G_depth (r : Option Nat) (n : Nat) : (G r).depth.isSome = true → 1 ≤ n := fun h => by cases h
def SExit.conc : SExit → Exit
  | .normal => .normal
  | .exit id => .exit id
  | .ret => .ret
structure Grow (K : Nat → Prop) (θ : Ren) (n : Nat) (K' : Nat → Prop) (θ' : Ren) (n' : Nat) : Prop where
  ext : Ext K θ θ'
  mono : ∀ i, K i → K' i
  fresh : ∀ i, K' i → K i ∨ n ≤ i
  le : n ≤ n'
theorem Grow.refl (K : Nat → Prop) (θ : Ren) (n : Nat) : Grow K θ n K θ n := ⟨Ext.refl _ _, fun _ h => h, fun _ h => .inl h, Nat.le_refl _⟩
theorem Grow.trans {K K' K'' : Nat → Prop} {θ θ' θ'' : Ren} {n n' n'' : Nat} (h : Grow K θ n K' θ' n') (h' : Grow K' θ' n' K'' θ'' n'') : Grow K θ n K'' θ'' n'' :=
  ⟨h.ext.trans h.mono h'.ext, fun i hi => h'.mono i (h.mono i hi), fun i hi => (h'.fresh i hi).elim (h.fresh i) fun hle => .inr (Nat.le_trans h.le hle), Nat.le_trans h.le h'.le⟩
section
variable (P : Program) (Γ : Env)
def Post (X : Nat → Prop) (w0 : World) (θ : Ren) (K : Nat → Prop) (n : Nat) (outs : List Out) (e : Exit) (a : Act) (w : World) : Prop :=
  ∃ o ∈ outs, ∃ (θ' : Ren) (K' : Nat → Prop), Grow K θ n K' θ' o.hp.next ∧ e = o.exit.conc ∧ Rep Γ X w0 θ' K' o.hp w ∧ FRep θ' K' o.fr a
def CPost (X : Nat → Prop) (w0 : World) (θ : Ren) (K : Nat → Prop) (n : Nat) (outs : List Out) (e : Ending) (w : World) : Prop :=
  ∃ o ∈ outs, ∃ (θ' : Ren) (K' : Nat → Prop), Grow K θ n K' θ' o.hp.next ∧ e = .returned (conc θ' o.v) ∧ o.v.ok K' ∧ Rep Γ X w0 θ' K' o.hp w
structure Sound (run1 : Task → R) : Prop where
  code : ∀ c ro fr hp outs, run1 (.code c ro fr hp) = some outs → ∀ X w0 θ K a w, Rep Γ X w0 θ K hp w → FRep θ K fr a → (∀ l, ro = some l → K l) → c.wpIn (G (ro.map θ.blk)) 0 P (Post Γ X w0 θ K hp.next outs) a w
  call : ∀ f args hp outs, run1 (.call f args hp) = some outs → (∃ fn c, P.funcs[f]? = some fn ∧ fn.body = some c) ∧
    ∀ X w0 θ K w, Rep Γ X w0 θ K hp w → SV.okL K args → CallsIn Fence.wide 0 P f (concL θ args).toArray w (CPost Γ X w0 θ K hp.next outs)
  round : ∀ b args hp outs, run1 (.round b args hp) = some outs → ∀ X w0 θ K w, Rep Γ X w0 θ K hp w → SV.okL K args →
    ∃ l f tmps assign body, (Instr.yield (θ.blk b) (concL θ args).toArray).run P w = .ok (.round l f tmps assign body) w ∧ RoundIn Fence.wide 0 P l f tmps assign body w (CPost Γ X w0 θ K hp.next outs)
end
theorem Post.trans {Γ : Env} {X : Nat → Prop} {w0 : World} {θ θ' : Ren} {K K' : Nat → Prop} {n n' : Nat} {outs outs' : List Out} {e : Exit} {a : Act} {w : World} (hG : Grow K θ n K' θ' n') (hs : ∀ o ∈ outs, o ∈ outs') (h : Post Γ X w0 θ' K' n' outs e a w) :
    Post Γ X w0 θ K n outs' e a w := by
  obtain ⟨o, ho, θ2, K2, h1, h3⟩ := h
  exact ⟨o, hs o ho, θ2, K2, hG.trans h1, h3⟩
theorem wpIn_mono2 {F : Fence} {n : Nat} {P : Program} {o : Oper} {a : Act} {w : World} {N N' : Act → World → Prop} {Q Q' : Exit → Act → World → Prop} (h : ∀ a w, N a w → N' a w) (hQ : ∀ e a w, Q e a w → Q' e a w)
    (hh : o.wpIn F n P a w N Q) : o.wpIn F n P a w N' Q' := by
  have lets : LetsOut Q → LetsOut Q' := fun ⟨a, w, hq⟩ => ⟨a, w, hQ _ _ _ hq⟩
  unfold Oper.wpIn at *
  refine ⟨hh.1, ?_⟩
  have hh := hh.2
  generalize (o.semAt F.round a.eval).run P w = r at *
  cases r with
  | ok x w' =>
    cases x <;> simp only [Oper.uponIn] at hh ⊢ <;>
      first
        | exact h _ _ hh
        | exact ⟨hh.1, CallsIn.mono hh.2 (fun e w'' he => by cases e <;> first | exact h _ _ he | exact hQ _ _ _ he | exact lets he)⟩
        | exact ⟨hh.1, RowsIn.mono hh.2 (fun _ _ he => h _ _ he)⟩
        | exact ⟨hh.1, RoundIn.mono hh.2 (fun e w'' he => by cases e <;> first | exact h _ _ he | exact hQ _ _ _ he | exact lets he)⟩
  | halt x w' => cases x <;> simp only [Oper.uponIn] at hh ⊢ <;> exact hQ _ _ _ hh
theorem wpOpsIn_mono {F : Fence} {n : Nat} {P : Program} {ops : Array Oper} {Q Q' : Exit → Act → World → Prop} (hQ : ∀ e a w, Q e a w → Q' e a w) : ∀ (l : List Nat) (a : Act) (w : World), wpOpsIn F n P ops Q l a w → wpOpsIn F n P ops Q' l a w := by
  intro l
  induction l with
  | nil => intro a w h; exact hQ _ _ _ h
  | cons i l ih =>
    intro a w h
    simp only [wpOpsIn] at h ⊢
    split at h
    · exact ih a w h
    · split at h
      · rename_i hw; simp only [hw, if_true]; exact wpIn_mono2 ih hQ h
      · rename_i hw; simp only [hw]; exact ⟨h.1, ih _ _ h.2⟩
theorem allOf_mem {α β : Type} {f : α → Option (List β)} : ∀ {l : List α} {r : List β}, allOf f l = some r → ∀ a ∈ l, ∃ x, f a = some x ∧ ∀ y ∈ x, y ∈ r := by
  intro l
  induction l with
  | nil => intro r _ a ha; cases ha
  | cons b l ih =>
    intro r h a ha
    simp only [allOf] at h
    split at h
    · rename_i x y hx hy
      simp only [Option.some.injEq] at h; subst h
      rcases List.mem_cons.1 ha with rfl | ha
      · exact ⟨x, hx, fun z hz => List.mem_append_left _ hz⟩
      · obtain ⟨u, hu, hm⟩ := ih hy a ha
        exact ⟨u, hu, fun z hz => List.mem_append_right _ (hm z hz)⟩
    · cases h
section
variable {P : Program} {Γ : Env} {X : Nat → Prop} {w0 : World} {θ : Ren} {K : Nat → Prop} {h : Hp} {w : World} {self : Task → R}
def AgreeOn (θ : Ren) (K : Nat → Prop) (fr : Fr) (a : Act) (o : Oper) : Prop := ∀ x ∈ o.op.operands, a.eval x = conc θ (fr.ev x) ∧ (fr.ev x).ok K
theorem FRep.agree {fr : Fr} {a : Act} (hf : FRep θ K fr a) (o : Oper) : AgreeOn θ K fr a o := fun x _ => ⟨hf.ev x, hf.evOk x⟩
theorem agree_exec {fr : Fr} {a : Act} {o : Oper} (hs : isSelect o.op = false) (ha : AgreeOn θ K fr a o) : execOp a.eval o = execOp (fun x => conc θ (fr.ev x)) o :=
  execOp_congr o (fun cs b he => by rw [he] at hs; cases hs) fun x hx => (ha x hx).1
theorem semAt_exec {r : Option Nat} {a : Act} {o : Oper} (hd : isDefer o.op = false) : o.semAt r a.eval = execOp a.eval o :=
  Oper.semAt_eq r a.eval o fun c he => by rw [he] at hd; cases hd
theorem quiet_kind {ρ : Operand → SV} {op : Op} {v : SV} {fs : List Fact} (hq : quiet P Γ h ρ op = some (v, fs)) : isSelect op = false ∧ isDefer op = false := by
  cases op <;> first | exact ⟨rfl, rfl⟩ | (simp only [quiet] at hq; cases hq)
theorem effect_kind {ρ : Operand → SV} {op : Op} {outs : List (SV × Hp)} (hq : effect P Γ h ρ op = some outs) : isSelect op = false ∧ isDefer op = false := by
  cases op <;> first | exact ⟨rfl, rfl⟩ | (simp only [effect] at hq; cases hq)
theorem callee_kind {ρ : Operand → SV} {op : Op} {c : Callee'} (hq : calleeOf ρ op = some c) : isSelect op = false ∧ isDefer op = false := by
  cases op <;> first | exact ⟨rfl, rfl⟩ | (simp only [calleeOf] at hq; cases hq)
theorem clone_find {fn : Func} (hn : fn.name = "maps.clone") (ho : fn.origin = "" ∨ fn.origin = "maps.clone") : Extern.findNext fn = none ∧ Extern.find fn = some Extern.MapsClone.clone := by
  have a1 : Extern.allNextRows.lookup "maps.clone" = none := by kernel_rfl
  have a2 : Extern.allNextRows.lookup "" = none := by kernel_rfl
  have b1 : Extern.allGenericRows.lookup "maps.clone" = none := by kernel_rfl
  have b2 : Extern.allTypedRows.lookup "maps.clone" = none := by kernel_rfl
  have b3 : Extern.allRows.lookup "maps.clone" = some Extern.MapsClone.clone := by kernel_rfl
  constructor
  · rcases ho with ho | ho <;> simp only [Extern.findNext, hn, ho, a1, a2] <;> rfl
  · simp only [Extern.find, hn, b1, b2, b3]; rfl
theorem cloneE_run (hN : NoCount P) {f : FuncId} {args : List SV} {x : SV × Hp} (hq : cloneE P h f args = some x) (hr : Rep Γ X w0 θ K h w) (hok : SV.okL K args) :
    ∃ (θ' : Ren) (K' : Nat → Prop) (w' : World), Grow K θ h.next K' θ' x.2.next ∧ (callFunc f (concL θ args).toArray).run P w = .ok (.value (conc θ' x.1)) w' ∧ x.1.ok K' ∧ Rep Γ X w0 θ' K' x.2 w' := by
  unfold cloneE at hq
  split at hq
  · rename_i fn t b hfn
    cases hc : (fn.body.isNone && (fn.name == "maps.clone") && (fn.origin == "" || fn.origin == "maps.clone")) with
    | false => rw [hc] at hq; cases hq
    | true =>
      rw [hc] at hq
      simp only [cond_true] at hq
      simp only [Bool.and_eq_true, Bool.or_eq_true, beq_iff_eq] at hc
      obtain ⟨⟨hbody, hname⟩, horg⟩ := hc
      obtain ⟨hfn1, hfn2⟩ := clone_find hname horg
      split at hq
      · rename_i es c hb
        simp only [Option.some.injEq] at hq; subst hq
        have hnk := hr.next h.next (Nat.le_refl _)
        obtain ⟨hg, _⟩ := hr.map (P := P) hb
        have hmok := hr.okAll b _ hb
        have hE : Ext K θ (θ.bind h.next w.heap.size 0) := Ren.bind_ext hnk
        refine ⟨θ.bind h.next w.heap.size 0, also K h.next, w.alloc (.map (es.map (entryC θ)).toArray c), ⟨hE, also_mono, also_fresh, Nat.le_succ _⟩, ?_, .inr rfl, ?_⟩
        · simp only [callFunc, Sem.run_bind, run_program, Result.andThen, hfn, hN f fn hfn, Bool.false_eq_true, if_false, hbody, if_true, hfn1, hfn2]
          have hcl : (Extern.MapsClone.clone #[.iface t (.map (some (θ.blk b)))]).run P w = .ok (.iface t (.map (some w.heap.size))) (w.alloc (.map (es.map (entryC θ)).toArray c)) := by
            have e : Extern.MapsClone.clone #[.iface t (.map (some (θ.blk b)))] = (getObj (θ.blk b) >>= fun o => match o with
              | .map entries clock => newObj (.map entries clock) >>= fun r => pure (.iface t (.map (some r)))
              | _ => stuck "maps.clone: a map expected") := rfl
            rw [e]
            simp only [Sem.run_bind, hg, Result.andThen, run_newObj, Sem.run_pure, World.alloc_eq]
          simp only [mark, Sem.run, concL, conc, hcl, Sem.run_pure, Hp.new, Ren.bind_blk]
        · refine hr.make_next (o := .map es c) rfl rfl rfl rfl (fun e he => ⟨ok_mono also_mono _ (hmok e he).1, ok_mono also_mono _ (hmok e he).2⟩) ?_
          simp only [ORep]
          congr 2
          exact List.map_congr_left fun e he => by rw [conc_ext hE _ (hmok e he).1, conc_ext hE _ (hmok e he).2]; rfl
      · cases hq
  · cases hq
theorem loud_sound (hN : NoCount P) (hS : Sound P Γ self) {fr : Fr} {o : Oper} {outs : List (SV × Hp)} (hq : loud P Γ self fr h o = some outs) {r : Option Nat} {a : Act} (hr : Rep Γ X w0 θ K h w) (ha : AgreeOn θ K fr a o)
    {next : Act → World → Prop} {Q : Exit → Act → World → Prop}
    (hnext : ∀ x ∈ outs, ∀ (θ' : Ren) (K' : Nat → Prop) (w' : World), Grow K θ h.next K' θ' x.2.next → x.1.ok K' → Rep Γ X w0 θ' K' x.2 w' → next (a.put o.dst (conc θ' x.1)) w') :
    o.wpIn (G r) 0 P a w next Q := by
  refine ⟨fun f _ => G_fn r f, ?_⟩
  unfold loud at hq
  split at hq
  · rename_i f args hc
    obtain ⟨hsel, hdef⟩ := callee_kind hc
    rw [semAt_exec hdef, agree_exec hsel ha]
    have hargs : SV.okL K args ∧ (execOp (fun x => conc θ (fr.ev x)) o).run P w = (callFunc f (concL θ args).toArray).run P w := by
      unfold calleeOf at hc
      split at hc
      · rename_i fo ar ty ho
        have hopf : fo ∈ o.op.operands := by rw [ho]; simp [Op.operands, Call.operands]
        have hopa : ∀ x ∈ ar.toList, x ∈ o.op.operands := fun x hx => by rw [ho]; simp only [Op.operands, Call.operands, Array.mem_append]; exact .inr (by simpa using hx)
        split at hc
        · rename_i g x y hv
          simp only [Option.some.injEq, Callee'.fn.injEq] at hc
          obtain ⟨rfl, rfl⟩ := hc
          refine ⟨okL_append (okL_append (okL_lits _ _) ((okL_iff _ _).2 fun v hv => ?_)) (okL_lits _ _), ?_⟩
          · obtain ⟨u, hu, rfl⟩ := List.mem_map.1 hv
            exact (ha u (hopa u hu)).2
          · have he : (x ++ ar.map fun z => conc θ (fr.ev z)) ++ y = (concL θ (x.toList.map .lit ++ ar.toList.map fr.ev ++ y.toList.map .lit)).toArray := by
              rw [← Array.toList_inj]
              simp only [Array.toList_append, concL_append, concL_lits, Array.toList_map]
              simp [concL_eq, Function.comp]
            simp only [execOp, ho, resolve, hv, conc, Deferred.ofValue, Sem.run_bind, Sem.run_pure, Result.andThen, invoke, he]
        · rename_i g x y hv
          simp only [Option.some.injEq, Callee'.fn.injEq] at hc
          obtain ⟨rfl, rfl⟩ := hc
          have hfok := (ha fo hopf).2
          rw [hv] at hfok
          refine ⟨okL_append (okL_append hfok.1 ((okL_iff _ _).2 fun v hv => ?_)) hfok.2, ?_⟩
          · obtain ⟨u, hu, rfl⟩ := List.mem_map.1 hv
            exact (ha u (hopa u hu)).2
          · have he : ((concL θ x).toArray ++ ar.map fun z => conc θ (fr.ev z)) ++ (concL θ y).toArray = (concL θ (x ++ ar.toList.map fr.ev ++ y)).toArray := by
              rw [← Array.toList_inj]
              simp only [Array.toList_append, concL_append, Array.toList_map]
              simp [concL_eq, Function.comp]
            simp only [execOp, ho, resolve, hv, conc, Deferred.ofValue, Sem.run_bind, Sem.run_pure, Result.andThen, invoke, he]
        · simp only [Option.some.injEq] at hc; cases hc
        · cases hc
      · cases hc
    rw [hargs.2]
    split at hq
    · rename_i x hx
      simp only [Option.some.injEq] at hq
      subst hq
      obtain ⟨θ', K', w', hG, hrun, hok, hrep⟩ := cloneE_run hN hx hr hargs.1
      rw [hrun]
      exact hnext x (List.mem_singleton.2 rfl) θ' K' w' hG hok hrep
    · rw [Option.map_eq_some_iff] at hq
      obtain ⟨os, hos, rfl⟩ := hq
      obtain ⟨⟨fn, c, hfn, hbody⟩, hcall⟩ := hS.call f args h os hos
      have hcf : ∀ vs : Array Value, (callFunc f vs).run P w = .ok (.enter f vs) w := fun vs => by
        simp only [callFunc, Sem.run_bind, run_program, Result.andThen, hfn, hN f fn hfn, Bool.false_eq_true, if_false, hbody, Option.isNone_some, Sem.run_pure]
      rw [hcf]
      refine ⟨G_depth r 0, ?_⟩
      refine CallsIn.mono (F := Fence.wide) (n := 0) (hcall X w0 θ K w hr hargs.1) fun e w' he => ?_
      obtain ⟨x, hx, θ', K', h1, rfl, h4, h5⟩ := he
      exact hnext (x.v, x.hp) (List.mem_map.2 ⟨x, hx, rfl⟩) θ' K' w' h1 h4 h5
  · rename_i b args hc
    obtain ⟨hsel, hdef⟩ := callee_kind hc
    rw [Option.map_eq_some_iff] at hq
    obtain ⟨os, hos, rfl⟩ := hq
    rw [semAt_exec hdef, agree_exec hsel ha]
    unfold calleeOf at hc
    split at hc
    · rename_i fo ar ty ho
      split at hc
      · simp only [Option.some.injEq] at hc; cases hc
      · simp only [Option.some.injEq] at hc; cases hc
      · rename_i b' hv
        simp only [Option.some.injEq, Callee'.round.injEq] at hc
        obtain ⟨rfl, rfl⟩ := hc
        have hok : SV.okL K (ar.toList.map fr.ev) := (okL_iff _ _).2 fun v hv => by
          obtain ⟨u, hu, rfl⟩ := List.mem_map.1 hv
          exact (ha u (by rw [ho]; simp only [Op.operands, Call.operands, Array.mem_append]; exact .inr (by simpa using hu))).2
        obtain ⟨l, f, tmps, assign, body, hy, hround⟩ := hS.round b' _ h os hos X w0 θ K w hr hok
        have he : (#[] ++ ar.map fun z => conc θ (fr.ev z)) = (concL θ (ar.toList.map fr.ev)).toArray := by
          rw [← Array.toList_inj]
          simp [concL_eq, Function.comp]
        have hrun : (execOp (fun x => conc θ (fr.ev x)) o).run P w = .ok (.round l f tmps assign body) w := by
          simp only [execOp, ho, resolve, hv, conc, Deferred.ofValue, Sem.run_bind, Sem.run_pure, Result.andThen, invoke, he, hy]
        rw [hrun]
        refine ⟨G_depth r 0, ?_⟩
        refine RoundIn.mono (F := Fence.wide) (n := 0) hround fun e w' he => ?_
        obtain ⟨x, hx, θ', K', h1, rfl, h4, h5⟩ := he
        exact hnext (x.v, x.hp) (List.mem_map.2 ⟨x, hx, rfl⟩) θ' K' w' h1 h4 h5
      · cases hc
    · cases hc
  · split at hq
    · cases hq
    · rename_i os hos
      cases hall : os.all (fun r => Nat.ble h.next r.2.next) with
      | false => rw [hall] at hq; cases hq
      | true =>
        rw [hall] at hq
        simp only [cond_true, Option.some.injEq] at hq; subst hq
        obtain ⟨hsel, hdef⟩ := effect_kind hos
        rw [semAt_exec hdef, agree_exec hsel ha]
        obtain ⟨x, hx, θ', K', w', nx, h1, h2, h3, hrun, hnx, h4, h5⟩ := effect_sound hos hr fun x hx => (ha x hx).2
        have hg : Grow K θ h.next K' θ' x.2.next := ⟨h1, h2, h3, le_of_ble (List.all_eq_true.1 hall x hx)⟩
        rw [hrun]
        rcases hnx with rfl | ⟨rfl, hv⟩
        · exact hnext x hx θ' K' w' hg h4 h5
        · have := hnext x hx θ' K' w' hg h4 h5
          rw [hv] at this
          exact this
theorem wantedQ_sound {fr : Fr} {a : Act} {ops : Array Oper} {o : Oper} {b : Bool} (hq : wantedQ ops fr o = some b) (hsz : a.tmps.size = fr.sz)
    (hf : ∀ j want t, o.guard = some (j, want) → (ops[j]?).bind (·.dst) = some t → a.tmps.getD t undef = conc θ (fr.ev (.tmp t))) : Region.wanted o (yielded ops a.tmps) = b := by
  unfold wantedQ at hq
  unfold Region.wanted
  split at hq
  · rename_i hg
    rw [hg]
    simp only [Option.some.injEq] at hq
    exact hq
  · rename_i j want hg
    rw [hg]
    simp only
    split at hq
    · rename_i ht
      simp only [Option.some.injEq] at hq
      subst hq
      simp [yielded, ht]
    · rename_i t ht
      have hy : yielded ops a.tmps j = if t < fr.sz then (match conc θ (fr.ev (.tmp t)) with | .bool b => some b | _ => none) else none := by
        unfold yielded
        rw [ht]
        simp only [Option.bind_some]
        by_cases hlt : t < fr.sz
        · rw [if_pos hlt]
          have h1 := hf j want t hg ht
          have hsz' : t < a.tmps.size := by rw [hsz]; exact hlt
          simp only [Array.getD_eq_getD_getElem?, Array.getElem?_eq_getElem hsz', Option.getD_some] at h1
          rw [Array.getElem?_eq_getElem hsz', h1]
          generalize conc θ (fr.ev (.tmp t)) = u
          cases u <;> rfl
        · rw [if_neg hlt]
          rw [Array.getElem?_eq_none (by rw [hsz]; exact Nat.le_of_not_lt hlt)]
      rw [hy]
      cases hlt : Nat.blt t fr.sz with
      | false =>
        rw [hlt] at hq
        simp only [cond_false, Option.some.injEq] at hq
        have : ¬ t < fr.sz := fun hp => by
          have : Nat.blt t fr.sz = true := Nat.ble_eq_true_of_le hp
          rw [this] at hlt; cases hlt
        rw [if_neg this, ← hq]
        rfl
      | true =>
        rw [hlt] at hq
        simp only [cond_true] at hq
        rw [if_pos (lt_of_blt hlt)]
        split at hq
        · rename_i c hc
          simp only [Option.some.injEq] at hq
          rw [hc, ← hq]
          simp only [conc]
          cases c <;> cases want <;> rfl
        · rename_i v hv hc
          simp only [Option.some.injEq] at hq
          rw [hc, ← hq]
          simp only [conc]
          cases v <;> first | rfl | exact absurd hc (hv _)
        · cases hq
theorem oper_sound [AskOk P Γ] (hN : NoCount P) (hS : Sound P Γ self) {ops : Array Oper} {fr : Fr} {o : Oper} {outs : List (Fr × Hp)} (hq : oper P Γ self ops fr h o = some outs) {r : Option Nat} {a : Act} (hr : Rep Γ X w0 θ K h w) (hf : FRep θ K fr a)
    {next : Act → World → Prop} {Q : Exit → Act → World → Prop}
    (hnext : ∀ x ∈ outs, ∀ (θ' : Ren) (K' : Nat → Prop) (a' : Act) (w' : World), Grow K θ h.next K' θ' x.2.next → FRep θ' K' x.1 a' → Rep Γ X w0 θ' K' x.2 w' → next a' w') :
    if Region.wanted o (yielded ops a.tmps) then o.wpIn (G r) 0 P a w next Q else (∀ f, o.about P w a.eval = some f → (G r).fn f) ∧ next (a.put o.dst undef) w := by
  unfold oper at hq
  have hwant : ∀ b, wantedQ ops fr o = some b → Region.wanted o (yielded ops a.tmps) = b := fun b hb => wantedQ_sound hb hf.tmps.1 fun j want t _ _ => hf.tmps.2 t
  split at hq
  · cases hq
  · rename_i hw
    rw [hwant _ hw, if_neg (by simp)]
    rw [Option.map_eq_some_iff] at hq
    obtain ⟨f, hp, rfl⟩ := hq
    refine ⟨fun f _ => G_fn r f, hnext (f, h) (List.mem_singleton.2 rfl) θ K _ w (Grow.refl _ _ _) ?_ hr⟩
    exact hf.put (v := .lit undef) trivial hp
  · rename_i hw
    rw [hwant _ hw, if_pos rfl]
    split at hq
    · rename_i v fs hquiet
      rw [Option.map_eq_some_iff] at hq
      obtain ⟨f, hp, rfl⟩ := hq
      refine ⟨fun f _ => G_fn r f, ?_⟩
      rcases quietA_split hquiet with hquiet | ⟨rfl, hask⟩
      · obtain ⟨hsel, hdef⟩ := quiet_kind hquiet
        rw [semAt_exec hdef, agree_exec hsel (hf.agree o), quiet_sound hquiet hr.globW fun f hf => hr.fact (quiet_facts hquiet f hf)]
        exact hnext (f, h) (List.mem_singleton.2 rfl) θ K _ w (Grow.refl _ _ _) (hf.put (quiet_ok hquiet (fun x hx => hf.evOk x) hr.okAll) hp) hr
      · obtain ⟨hvk, hsel, hdef, hrun⟩ := AskOk.ok (P := P) hr.inv _ _ _ hask fun x _ => hf.evOk x
        rw [semAt_exec hdef, agree_exec hsel (hf.agree o), hrun o w rfl]
        exact hnext (f, h) (List.mem_singleton.2 rfl) θ K _ w (Grow.refl _ _ _) (hf.put hvk hp) hr
    · split at hq
      · rename_i rs hloud
        refine loud_sound hN hS hloud hr (hf.agree o) fun x hx θ' K' w' h1 h3 h4 => ?_
        obtain ⟨y, hy, hm⟩ := allOf_mem hq x hx
        rw [Option.map_eq_some_iff] at hy
        obtain ⟨f, hp, rfl⟩ := hy
        exact hnext (f, x.2) (hm _ (List.mem_singleton.2 rfl)) θ' K' _ w' h1 ((hf.ext h1.ext h1.mono).put h3 hp) h4
      · cases hq
theorem inTurn_sound [AskOk P Γ] (hN : NoCount P) (hS : Sound P Γ self) {ops : Array Oper} {r : Option Nat} (l : List Oper) : ∀ {i : Nat} {fr : Fr} {h : Hp} {outs : List Out} {θ : Ren} {K : Nat → Prop} {a : Act} {w : World},
    (∀ k, (l[k]?) = ops[i + k]?) → inTurn P Γ self ops l fr h = some outs → Rep Γ X w0 θ K h w → FRep θ K fr a → wpOpsIn (G r) 0 P ops (Post Γ X w0 θ K h.next outs) (List.range' i l.length) a w := by
  induction l with
  | nil =>
    intro i fr h outs θ K a w _ hq hr hf
    simp only [inTurn, Option.some.injEq] at hq; subst hq
    exact ⟨_, List.mem_singleton.2 rfl, θ, K, Grow.refl _ _ _, rfl, hr, hf⟩
  | cons o l ih =>
    intro i fr h outs θ K a w hl hq hr hf
    simp only [inTurn] at hq
    have h0 : ops[i]? = some o := (hl 0).symm
    have hl' : ∀ k, l[k]? = ops[i + 1 + k]? := fun k => by have := hl (k + 1); rw [List.getElem?_cons_succ] at this; rw [this]; congr 1; omega
    split at hq
    · rename_i xs hxs
      simp only [List.length_cons, List.range'_succ, wpOpsIn, h0]
      have := oper_sound (next := wpOpsIn (G r) 0 P ops (Post Γ X w0 θ K h.next outs) (List.range' (i + 1) l.length)) (Q := Post Γ X w0 θ K h.next outs) (r := r) hN hS hxs hr hf (fun x hx θ' K' a' w' h1 h3 h4 => by
        obtain ⟨y, hy, hm⟩ := allOf_mem hq x hx
        have := ih hl' hy h4 h3
        refine wpOpsIn_mono ?_ _ _ _ this
        intro e a w hp
        exact hp.trans h1 hm)
      exact this
    · cases hq
end
end Go.Proofs.YtdhmljjpiainnaaGreatDoor.Ev
