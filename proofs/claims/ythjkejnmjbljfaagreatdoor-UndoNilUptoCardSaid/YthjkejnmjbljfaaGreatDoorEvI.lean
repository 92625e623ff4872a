/-
  THE EVALUATOR'S OPERATIONS THAT MAKE OR TURN MEMORY ARE THE MODEL'S (3: append, copy; and all of them in one word), by the author of this claim. Of any program; no condition.
-/
import Derived.Test.YthjkejnmjbljfaaGreatDoorEvH
namespace Go.Proofs.YthjkejnmjbljfaaGreatDoor.Ev
open Go Go.RowKit

section
variable {P : Program} {Γ : Env} {X : Nat → Prop} {w0 : World} {θ : Ren} {K : Nat → Prop} {h : Hp} {w : World}

/-- A block is turned, and goes by another number from now on. -/
theorem Rep.move {b β c : Nat} {o o' : AObj} {ob' : Obj} (hr : Rep Γ X w0 θ K h w) (hb : h.objs.get b = some o) (hβ : β = h.next) (hok : o'.ok (also K β)) (hO : ORep (θ.bind β (θ.blk b) c) o' ob') :
    Rep Γ X w0 (θ.bind β (θ.blk b) c) (also K β) ⟨(h.objs.put b none).set β o', β + 1⟩ (setB w (θ.blk b) ob') := by
  have hnk : ¬ K β := by rw [hβ]; exact hr.next _ (Nat.le_refl _)
  have hE : Ext K θ (θ.bind β (θ.blk b) c) := Ren.bind_ext hnk
  obtain ⟨hKb, hXb, _, ob, hw, _⟩ := hr.obj b o hb
  have get : ∀ b' o1, b' ≠ β → ((h.objs.put b none).set β o').get b' = some o1 → b' ≠ b ∧ h.objs.get b' = some o1 := fun b' o1 hne hg => by
    rw [T.get_set, if_neg hne, T.get_put] at hg
    by_cases e : b' = b
    · rw [if_pos e] at hg; cases hg
    · rw [if_neg e] at hg; exact ⟨e, hg⟩
  have blk : ∀ b' o1, h.objs.get b' = some o1 → (θ.bind β (θ.blk b) c).blk b' = θ.blk b' := fun b' o1 hg => hE.blk b' (hr.obj b' o1 hg).1
  refine ⟨hr.os, hr.tape, hr.output, by simpa [setB] using hr.size, fun k hk => ?_, hr.low, hr.glob, fun b' o1 hb' => ?_, fun b1 b2 o1 o2 h1 h2 he => ?_, fun i hi => ?_, Γ.ext hr.inv hE also_mono⟩
  · rw [setB_get, if_neg (fun e : k = θ.blk b ∧ _ => hXb (e.1 ▸ hk))]
    exact hr.kept k hk
  · by_cases e : b' = β
    · subst e
      have hb'' : ((h.objs.put b none).set b' o').get b' = some o1 := hb'
      rw [T.get_set, if_pos rfl] at hb''
      cases hb''
      exact ⟨.inr rfl, by rw [Ren.bind_blk]; exact hXb, hok, ob', by rw [Ren.bind_blk]; exact setB_same hw, hO⟩
    · obtain ⟨hne, hg⟩ := get b' o1 e hb'
      obtain ⟨k1, k2, k3, ob1, k4, k5⟩ := hr.obj b' o1 hg
      refine ⟨.inl k1, by rw [blk b' o1 hg]; exact k2, AObj.ok_mono also_mono _ k3, ob1, ?_, ORep_ext hE k3 k5⟩
      rw [blk b' o1 hg, setB_get, if_neg (fun e' : θ.blk b' = θ.blk b ∧ _ => hne (hr.inj b' b o1 o hg hb e'.1))]
      exact k4
  · by_cases e1 : b1 = β
    · by_cases e2 : b2 = β
      · rw [e1, e2]
      · obtain ⟨hne, hg⟩ := get b2 o2 e2 h2
        rw [e1, Ren.bind_blk, blk b2 o2 hg] at he
        exact absurd (hr.inj b2 b o2 o hg hb he.symm) hne
    · obtain ⟨hne1, hg1⟩ := get b1 o1 e1 h1
      by_cases e2 : b2 = β
      · rw [e2, Ren.bind_blk, blk b1 o1 hg1] at he
        exact absurd (hr.inj b1 b o1 o hg1 hb he) hne1
      · obtain ⟨hne2, hg2⟩ := get b2 o2 e2 h2
        rw [blk b1 o1 hg1, blk b2 o2 hg2] at he
        exact hr.inj b1 b2 o1 o2 hg1 hg2 he
  · have hi' : β + 1 ≤ i := hi
    rintro (hk | rfl)
    · exact hr.next i (by omega) hk
    · omega

/-- A row of the call's own, of whatever capacity. -/
theorem newRow_rep {l : List SV} {e : TypeId} {len size : Nat} {ex : List Value} {w1 : World} {c : Nat} {fr : Nat × Nat} (hr : Rep Γ X w0 θ K h w) (hl : SV.okL K l) (hlen : l.length = len * size) (hex : ex.length = c * size)
    (h1 : w1.os = w.os) (h2 : w1.tape = w.tape) (h3 : w1.output = w.output) (h4 : w1.heap = w.heap.push (.cells (concL θ l ++ ex).toArray e fr)) (hfr : frOk fr (l.length + ex.length)) :
    Rep Γ X w0 (θ.bind h.next w.heap.size c) (also K h.next) (newRowE h l e len size).2 w1 ∧ conc (θ.bind h.next w.heap.size c) (newRowE h l e len size).1 = .slice (some ⟨w.heap.size, 0, none⟩) len (len + c) ∧ (newRowE h l e len size).1.ok (also K h.next) := by
  have hnk := hr.next h.next (Nat.le_refl _)
  refine ⟨hr.make_next (o := .row l e len h.next size) h1 h2 h3 h4 ⟨okL_also hl, .inr rfl⟩ ⟨fr, ex, by rw [concL_ext (Ren.bind_ext hnk) l hl], hfr, ?_⟩, ?_, ⟨.inr rfl, .inr rfl⟩⟩
  · rw [Ren.bind_cap, hlen, hex, Nat.add_mul]
  · simp only [newRowE, conc, Ren.bind_blk, Ren.bind_cap]

/-! ### what is appended -/
theorem srcCells_sound {size n : Nat} {x : SV} {vs : List SV} (hq : srcCells Γ h size x = some (vs, n)) (hr : Rep Γ X w0 θ K h w) :
    (Builtin.lenOf (conc θ x)).run P w = .ok n w ∧ (Builtin.firstCells size n (conc θ x)).run P w = .ok (concL θ vs).toArray w ∧ SV.okL K vs := by
  unfold srcCells at hq
  split at hq
  · rename_i c
    simp only [Option.some.injEq, Prod.mk.injEq] at hq
    obtain ⟨rfl, rfl⟩ := hq
    exact ⟨rfl, rfl, trivial⟩
  · rename_i s
    simp only [Option.some.injEq, Prod.mk.injEq] at hq
    obtain ⟨rfl, rfl⟩ := hq
    refine ⟨rfl, ?_, (okL_iff _ _).2 fun v hv => ?_⟩
    · simp only [conc, Builtin.firstCells, Sem.run_pure]
      congr 1
      rw [← Array.toList_inj]
      simp [concL_eq, Function.comp, conc]
    · obtain ⟨y, _, rfl⟩ := List.mem_map.1 hv
      trivial
  · rename_i b off m c
    split at hq
    · rename_i us fs hus
      simp only [Option.some.injEq, Prod.mk.injEq] at hq
      obtain ⟨rfl, rfl⟩ := hq
      obtain ⟨a, ha, hl⟩ := readCells_loads (P := P) (θ := θ) hus hr.globW (fun f hf => hr.fact (readCells_facts hus f hf))
      simp only [conc, Value.pointer.injEq, Option.some.injEq] at ha
      subst ha
      exact ⟨rfl, hl, readCells_ok hus hr.okAll⟩
    · cases hq
  · rename_i b off m k cv
    split at hq
    · rename_i us fs hus
      simp only [Option.some.injEq, Prod.mk.injEq] at hq
      obtain ⟨rfl, rfl⟩ := hq
      obtain ⟨a, ha, hl⟩ := readCells_loads (P := P) (θ := θ) hus hr.globW (fun f hf => hr.fact (readCells_facts hus f hf))
      simp only [conc, Value.pointer.injEq, Option.some.injEq] at ha
      subst ha
      exact ⟨rfl, hl, readCells_ok hus hr.okAll⟩
    · cases hq
  · cases hq

/-! ### append -/
theorem growBy_le (m : Nat) : ∀ (r c : Nat), Builtin.growBy m r c ≤ max c (2 * m + 192) := by
  intro r
  induction r with
  | zero => intro c; simp only [Builtin.growBy]; omega
  | succ r ih =>
    intro c
    simp only [Builtin.growBy]
    split
    · omega
    · have := ih (c + (c + 768) / 4)
      omega
theorem nextslicecap_le {need cap : Nat} (hlt : cap < need) : Builtin.nextslicecap need cap ≤ 2 * need + 192 := by
  unfold Builtin.nextslicecap
  split
  · omega
  · split
    · omega
    · have := growBy_le need 4 cap
      omega

structure Appends (P : Program) (tys : Array TypeId) (args : Array Value) (st xt e : TypeId) (i : TypeInfo) (z : Value) (xd : TypeDesc) (sv xv : Value) : Prop where
  t0 : tys[0]? = some st
  t1 : tys[1]? = some xt
  a0 : args[0]? = some sv
  a1 : args[1]? = some xv
  us : tyU P st = some (.slice e)
  ux : tyU P xt = some xd
  nint : ∀ k, xd ≠ .int k
  info : P.info? e = some i
  zero : i.zero = some z

theorem append_fits {tys : Array TypeId} {args : Array Value} {st xt e ty : TypeId} {i : TypeInfo} {z : Value} {xd : TypeDesc} {base : Option Addr} {sLen sCap n : Nat} {xv : Value} {news : Array Value} {w' : World}
    (ha : Appends P tys args st xt e i z xd (.slice base sLen sCap) xv) (hn : (Builtin.lenOf xv).run P w = .ok n w) (hf : (Builtin.firstCells i.size n xv).run P w = .ok news w) (hle : sLen + n ≤ sCap)
    (hs : (match base with
      | some a => storeCells (a.add (sLen * i.size)) news.toList
      | none => pure () : Sem Unit).run P w = .ok () w') :
    (Builtin.append_ tys ty args).run P w = .ok (.slice base (sLen + n) sCap) w' := by
  have hsize : tySize P e = some i.size := by simp only [tySize, ha.info, Option.map_some]
  have hux := r_underlying ha.ux w
  have hnint := ha.nint
  cases base with
  | none =>
    simp only [Sem.run_pure, Result.ok.injEq, true_and] at hs
    subst hs
    cases xd <;> first
      | exact absurd rfl (hnint _)
      | simp only [Builtin.append_, ha.t0, ha.a0, ha.a1, Sem.run_bind, r_underlying ha.us w, Result.andThen, r_sizeOf hsize w, ha.t1, hux, Sem.run_pure, Bool.false_eq_true, if_false, hn, hle, if_true, Bool.not_false, hf]
  | some a =>
    simp only at hs
    cases xd <;> first
      | exact absurd rfl (hnint _)
      | simp only [Builtin.append_, ha.t0, ha.a0, ha.a1, Sem.run_bind, r_underlying ha.us w, Result.andThen, r_sizeOf hsize w, ha.t1, hux, Sem.run_pure, Bool.false_eq_true, if_false, hn, hle, if_true, Bool.not_false, hf, hs]

theorem append_grows {tys : Array TypeId} {args : Array Value} {st xt e ty : TypeId} {i : TypeInfo} {z : Value} {xd : TypeDesc} {base : Option Addr} {sLen sCap n : Nat} {xv : Value} {olds news : Array Value}
    (ha : Appends P tys args st xt e i z xd (.slice base sLen sCap) xv) (hn : (Builtin.lenOf xv).run P w = .ok n w) (hlt : sCap < sLen + n) (hneed : sLen + n ≤ 4000000) (hbytes : i.bytes ≤ 1000)
    (hf : ∀ w1 : World, w1.heap = w.heap → (Builtin.firstCells i.size n xv).run P w1 = .ok news w1) (ho : ∀ w1 : World, w1.heap = w.heap → (Builtin.firstCells i.size sLen (.slice base sLen sCap)).run P w1 = .ok olds w1) :
    ∃ (c : Nat) (w' : World), (Builtin.append_ tys ty args).run P w = .ok (.slice (some ⟨w.heap.size, 0, none⟩) (sLen + n) (sLen + n + c)) w' ∧ w'.os = w.os ∧ w'.tape = w.tape ∧ w'.output = w.output ∧
      w'.heap = w.heap.push (.cells (olds ++ news ++ Builtin.zeroCells z.cells c) e) := by
  have hsize : tySize P e = some i.size := by simp only [tySize, ha.info, Option.map_some]
  have hzero : tyZero P e = some z := by simp only [tyZero, ha.info, Option.bind_some, ha.zero]
  have hux := r_underlying ha.ux w
  have hnint := ha.nint
  have hnot : ¬ (sLen + n ≤ sCap) := by omega
  have c1 : ¬ (((sLen + n : Nat) : Int) > IntKind.i64.max ∧ (False ∨ i.bytes = 0)) := by
    intro hh
    have : IntKind.i64.max = 9223372036854775807 := by decide
    omega
  have c2 : ¬ (Builtin.nextslicecap (sLen + n) sCap * i.bytes > 2 ^ 48) := by
    have h1 := nextslicecap_le hlt
    have h2 : Builtin.nextslicecap (sLen + n) sCap * i.bytes ≤ (2 * (sLen + n) + 192) * 1000 := Nat.mul_le_mul h1 hbytes
    omega
  refine ⟨w.tape w.drawn (.appendCap (sLen + n) sCap e) % (2 ^ 63 - (sLen + n)), { w.drew with heap := w.heap.push (.cells (olds ++ news ++ Builtin.zeroCells z.cells (w.tape w.drawn (.appendCap (sLen + n) sCap e) % (2 ^ 63 - (sLen + n)))) e) }, ?_, rfl, rfl, rfl, rfl⟩
  have hcut : Question.cut (.appendCap (sLen + n) sCap e) (w.tape w.drawn (.appendCap (sLen + n) sCap e)) = sLen + n + w.tape w.drawn (.appendCap (sLen + n) sCap e) % (2 ^ 63 - (sLen + n)) := rfl
  have hfo : Question.forced (.appendCap (sLen + n) sCap e) = false := rfl
  have hi1 := fun w1 => r_typeInfo (P := P) ha.info w1
  have hz1 := fun w1 => r_zeroValue (P := P) hzero w1
  have ho' := ho w.drew rfl
  have hf' := hf w.drew rfl
  have hsub : sLen + n + w.tape w.drawn (.appendCap (sLen + n) sCap e) % (2 ^ 63 - (sLen + n)) - (sLen + n) = w.tape w.drawn (.appendCap (sLen + n) sCap e) % (2 ^ 63 - (sLen + n)) := by omega
  cases xd <;> first
    | exact absurd rfl (hnint _)
    | (simp only [Builtin.append_, ha.t0, ha.a0, ha.a1, Sem.run_bind, r_underlying ha.us w, Result.andThen, r_sizeOf hsize w, ha.t1, hux, Sem.run_pure, Bool.false_eq_true, if_false, hn, hnot, Bool.not_false, if_true, hi1, c1, c2, run_choose, hfo, hcut, World.drew_eq, run_askRoom, ho', hf', hz1, newRow, run_newObj, hsub]
       rfl)
end
end Go.Proofs.YthjkejnmjbljfaaGreatDoor.Ev
