/-
  THE EVALUATOR'S OPERATIONS THAT MAKE OR TURN MEMORY ARE THE MODEL'S, in one word, by the author of this claim. Of any program; no condition.
-/
import Derived.Test.YthjkejnmjbljfaaGreatDoorEvI
namespace Go.Proofs.YthjkejnmjbljfaaGreatDoor.Ev
open Go Go.RowKit

section
variable {P : Program} {Γ : Env} {X : Nat → Prop} {w0 : World} {θ : Ren} {K : Nat → Prop} {h : Hp} {w : World}

theorem firstCells_heap {size n : Nat} {x : SV} {vs : List SV} (hq : srcCells Γ h size x = some (vs, n)) (hr : Rep Γ X w0 θ K h w) (w1 : World) (h1 : w1.heap = w.heap) :
    (Builtin.firstCells size n (conc θ x)).run P w1 = .ok (concL θ vs).toArray w1 := by
  -- only the heap counts
  have key : Rep Γ X { w0 with os := w1.os, tape := w1.tape, output := w1.output } θ K h w1 :=
    ⟨rfl, rfl, rfl, by rw [h1]; exact hr.size, fun k hk => by rw [h1]; exact hr.kept k hk, hr.low, hr.glob, fun b o hb => by rw [h1]; exact hr.obj b o hb, hr.inj, hr.next, Γ.base hr.inv (fun _ h => h) (fun _ _ => rfl) (Nat.le_refl _)⟩
  exact (srcCells_sound hq key).2.1
theorem loads_heap {p : SV} {n : Nat} {vs : List SV} {fs : List Fact} (hq : readCells Γ h p n = some (vs, fs)) (hr : Rep Γ X w0 θ K h w) (w1 : World) (h1 : w1.heap = w.heap) :
    ∃ a : Addr, conc θ p = .pointer (some a) ∧ (loadCells a n).run P w1 = .ok (concL θ vs).toArray w1 := by
  have key : Rep Γ X { w0 with os := w1.os, tape := w1.tape, output := w1.output } θ K h w1 :=
    ⟨rfl, rfl, rfl, by rw [h1]; exact hr.size, fun k hk => by rw [h1]; exact hr.kept k hk, hr.low, hr.glob, fun b o hb => by rw [h1]; exact hr.obj b o hb, hr.inj, hr.next, Γ.base hr.inv (fun _ h => h) (fun _ _ => rfl) (Nat.le_refl _)⟩
  exact readCells_loads hq key.globW fun f hf => key.fact (readCells_facts hq f hf)

theorem readCells_length {p : SV} {n : Nat} {vs : List SV} {fs : List Fact} (hq : readCells Γ h p n = some (vs, fs)) : vs.length = n := by
  unfold readCells at hq
  split at hq
  · split at hq
    · rename_i us hus
      simp only [Option.some.injEq, Prod.mk.injEq] at hq
      obtain ⟨rfl, rfl⟩ := hq
      simp only [Option.bind_eq_some_iff] at hus
      obtain ⟨l, _, hc⟩ := hus
      exact (cut_spec hc).2
    · cases hq
  · split at hq
    · rename_i us hus
      simp only [Option.some.injEq, Prod.mk.injEq] at hq
      obtain ⟨rfl, rfl⟩ := hq
      simp only [Option.bind_eq_some_iff] at hus
      obtain ⟨l, _, hc⟩ := hus
      exact (cut_spec hc).2
    · cases hq
  · cases hq

theorem zeroCells_len (z : Value) (c : Nat) : (Builtin.zeroCells z.cells c).toList.length = c * z.cells.size := by
  simp [Builtin.zeroCells]

def AppOut (P : Program) (Γ : Env) (X : Nat → Prop) (w0 : World) (θ : Ren) (K : Nat → Prop) (n : Nat) (s : Sem Value) (w : World) (r : SV × Hp) : Prop :=
  ∃ θ' K' w', Ext K θ θ' ∧ (∀ i, K i → K' i) ∧ (∀ i, K' i → K i ∨ n ≤ i) ∧ s.run P w = .ok (conc θ' r.1) w' ∧ r.1.ok K' ∧ Rep Γ X w0 θ' K' r.2 w'

/-- The row grows into a new one. -/
theorem grows_out {tys : Array TypeId} {args : Array Value} {st xt e ty : TypeId} {i : TypeInfo} {z : Value} {xd : TypeDesc} {base : Option Addr} {sLen sCap n : Nat} {xv : Value} {olds news : List SV} {t : T AObj}
    (hr : Rep Γ X w0 θ K h w) (hsub : ∀ b o, t.get b = some o → h.objs.get b = some o)
    (ha : Appends P tys args st xt e i z xd (.slice base sLen sCap) xv) (hn : (Builtin.lenOf xv).run P w = .ok n w) (hlt : sCap < sLen + n) (hneed : sLen + n ≤ 4000000) (hbytes : i.bytes ≤ 1000) (hz : z.cells.size = i.size)
    (hf : ∀ w1 : World, w1.heap = w.heap → (Builtin.firstCells i.size n xv).run P w1 = .ok (concL θ news).toArray w1)
    (ho : ∀ w1 : World, w1.heap = w.heap → (Builtin.firstCells i.size sLen (.slice base sLen sCap)).run P w1 = .ok (concL θ olds).toArray w1)
    (ok1 : SV.okL K olds) (ok2 : SV.okL K news) (l1 : olds.length = sLen * i.size) (l2 : news.length = n * i.size) :
    AppOut P Γ X w0 θ K h.next (Builtin.append_ tys ty args) w (newRowE ⟨t, h.next⟩ (olds ++ news) e (sLen + n) i.size) := by
  obtain ⟨c, w', hrun, g1, g2, g3, g4⟩ := append_grows (ty := ty) ha hn hlt hneed hbytes hf ho
  have hr' : Rep Γ X w0 θ K ⟨t, h.next⟩ w := hr.fewer hsub
  have hheap : w'.heap = w.heap.push (.cells (concL θ (olds ++ news) ++ (Builtin.zeroCells z.cells c).toList).toArray e (0, 0)) := by
    rw [g4]
    congr 2
    rw [← Array.toList_inj]
    simp [concL_append]
  obtain ⟨hrep, hc, hok⟩ := newRow_rep (h := ⟨t, h.next⟩) (l := olds ++ news) (e := e) (len := sLen + n) (size := i.size) (ex := (Builtin.zeroCells z.cells c).toList) (c := c) (fr := (0, 0)) hr'
    (okL_append ok1 ok2) (by rw [List.length_append, l1, l2, Nat.add_mul]) (by rw [zeroCells_len, hz]) g1 g2 g3 hheap (frOk_zero _)
  exact ⟨_, _, w', Ren.bind_ext (hr.next _ (Nat.le_refl _)), also_mono, also_fresh, by rw [hc]; exact hrun, hok, hrep⟩

theorem appendE_sound {tys : Array TypeId} {args : Array Value} {ty : TypeId} {s x : SV} {r : SV × Hp} (hq : appendE P Γ h tys.toList s x = some r) (hr : Rep Γ X w0 θ K h w) (hsok : s.ok K)
    (ha0 : args[0]? = some (conc θ s)) (ha1 : args[1]? = some (conc θ x)) : AppOut P Γ X w0 θ K h.next (Builtin.append_ tys ty args) w r := by
  unfold appendE at hq
  split at hq
  · rename_i st xt htys
    have ht0 : tys[0]? = some st := by rw [← Array.getElem?_toList, htys]; rfl
    have ht1 : tys[1]? = some xt := by rw [← Array.getElem?_toList, htys]; rfl
    split at hq
    · rename_i e xd hus hux
      have hnint : ∀ k, xd ≠ .int k := fun k he => by
        subst he
        cases hq
      have hni : isIntD xd = false := by cases xd <;> first | rfl | exact absurd rfl (hnint _)
      rw [hni] at hq
      simp only [cond_false] at hq
      split at hq
      · cases hq
      · rename_i i hinfo
        split at hq
        · rename_i z news n hzero hsrc
          cases hc : Nat.ble i.bytes 1000 && Nat.ble n 2000000 && Nat.blt 0 i.size && Nat.beq (SV.cells (.lit z)).length i.size && Nat.beq news.length (n * i.size) with
          | false => rw [hc] at hq; cases hq
          | true =>
            rw [hc] at hq
            simp only [cond_true] at hq
            simp only [Bool.and_eq_true] at hc
            obtain ⟨⟨⟨⟨c1, c2⟩, c3⟩, c4⟩, c5⟩ := hc
            have d1 := le_of_ble c1
            have d2 := le_of_ble c2
            have d3 := lt_of_blt c3
            have d5 := eq_of_beq c5
            have hz : z.cells.size = i.size := by rw [← eq_of_beq c4]; have := cells_conc θ (.lit z); simp only [conc] at this; rw [this]; simp
            obtain ⟨hlen, hfirst, hnok⟩ := srcCells_sound (P := P) hsrc hr
            have hfirst' := fun w1 hh => firstCells_heap (P := P) hsrc hr w1 hh
            have mk : ∀ base sl sc, conc θ s = .slice base sl sc → Appends P tys args st xt e i z xd (.slice base sl sc) (conc θ x) := fun base sl sc hs =>
              ⟨ht0, ht1, by rw [ha0, hs], ha1, hus, hux, hnint, hinfo, hzero⟩
            split at hq
            · -- nothing yet
              have happ := mk none 0 0 rfl
              cases hn0 : Nat.beq n 0 with
              | true =>
                rw [hn0] at hq
                simp only [cond_true, Option.some.injEq] at hq; subst hq
                have := eq_of_beq hn0; subst this
                exact ⟨θ, K, w, Ext.refl _ _, fun _ h => h, fun _ h => .inl h, append_fits (w' := w) happ hlen hfirst (Nat.le_refl _) rfl, trivial, hr⟩
              | false =>
                rw [hn0] at hq
                simp only [cond_false, Option.some.injEq] at hq; subst hq
                have hne := ne_of_beq hn0
                have := grows_out (ty := ty) (olds := []) (t := h.objs) hr (fun b o hb => hb) happ hlen (by omega) (by omega) d1 hz hfirst' (fun w1 _ => rfl) trivial hnok (by simp) d5
                simpa using this
            · -- a row of its own
              rename_i b len k cv
              cases hle : Nat.ble len 2000000 with
              | false => rw [hle] at hq; cases hq
              | true =>
                rw [hle] at hq
                have hle' := le_of_ble hle
                simp only [cond_true] at hq
                split at hq
                · rename_i l e' k' cv' size' hb
                  cases hcc : Nat.beq cv cv' && Nat.beq k k' && Nat.ble len k && Nat.beq size' i.size && Nat.beq e e' && Nat.ble (len * i.size) l.length && news.all SV.one with
                  | false => rw [hcc] at hq; cases hq
                  | true =>
                    rw [hcc] at hq
                    simp only [cond_true] at hq
                    simp only [Bool.and_eq_true] at hcc
                    obtain ⟨⟨⟨⟨⟨⟨f1, f2⟩, f3⟩, f4⟩, f5⟩, f6⟩, f7⟩ := hcc
                    have := eq_of_beq f1; subst this
                    have := eq_of_beq f2; subst this
                    have := eq_of_beq f4; subst this
                    have := eq_of_beq f5; subst this
                    have f3' := le_of_ble f3
                    have f6' := le_of_ble f6
                    have happ := mk (some ⟨θ.blk b, 0, none⟩) len (k + θ.cap cv) rfl
                    obtain ⟨hKb, hXb, hbok, ob, hw, fr, ex, rfl, hfr, hsz⟩ := hr.obj b _ hb
                    cases hn0 : Nat.beq n 0 with
                    | true =>
                      rw [hn0] at hq
                      simp only [cond_true, Option.some.injEq] at hq; subst hq
                      have := eq_of_beq hn0; subst this
                      have hnil : news = [] := List.eq_nil_of_length_eq_zero (by omega)
                      subst hnil
                      exact ⟨θ, K, w, Ext.refl _ _, fun _ h => h, fun _ h => .inl h, append_fits (w' := w) happ hlen hfirst (by omega) rfl, hsok, hr⟩
                    | false =>
                      rw [hn0] at hq
                      simp only [cond_false, Option.some.injEq] at hq; subst hq
                      have hne := ne_of_beq hn0
                      have htake : (l.take (len * i.size)).length = len * i.size := by rw [List.length_take]; omega
                      have htok : SV.okL K (l.take (len * i.size)) := okL_sub hbok.1 fun v hv => List.mem_of_mem_take hv
                      have hct : concL θ (l.take (len * i.size)) = (concL θ l).take (len * i.size) := by simp only [concL_eq, List.map_take]
                      by_cases hfit : len + n ≤ k + θ.cap cv
                      · -- in place
                        have htot : len * i.size + n * i.size ≤ (k + θ.cap cv) * i.size := by rw [← Nat.add_mul]; exact Nat.mul_le_mul_right _ hfit
                        have hst := run_storeCells_any (P := P) (off := len * i.size) (concL θ news) 0 (concL θ l ++ ex) w hw (by simp only [concL_length, Nat.add_zero, List.length_append]; omega) (by simpa using hfr) (all_one f7)
                        simp only [Nat.add_zero, concL_length] at hst
                        have hrun := append_fits (ty := ty) happ hlen hfirst hfit (w' := setB w (θ.blk b) (.cells ((concL θ l ++ ex).take (len * i.size) ++ concL θ news ++ (concL θ l ++ ex).drop (len * i.size + news.length)).toArray e fr)) (by
                          simp only [add_none, Nat.zero_add]; exact hst)
                        have hnk := hr.next h.next (Nat.le_refl _)
                        refine ⟨θ.bind h.next (θ.blk b) (k + θ.cap cv - (len + n)), also K h.next, _, Ren.bind_ext hnk, also_mono, also_fresh, ?_, ⟨.inr rfl, .inr rfl⟩, hr.move (o' := .row (l.take (len * i.size) ++ news) e (len + n) h.next i.size) (ob' := .cells ((concL θ l ++ ex).take (len * i.size) ++ concL θ news ++ (concL θ l ++ ex).drop (len * i.size + news.length)).toArray e fr) hb rfl ⟨okL_also (okL_append htok hnok), .inr rfl⟩ ⟨fr, (concL θ l ++ ex).drop (len * i.size + news.length), ?_, ?_, ?_⟩⟩
                        · rw [hrun]
                          simp only [newRowE, conc, Ren.bind_blk, Ren.bind_cap]
                          rw [show len + n + (k + θ.cap cv - (len + n)) = k + θ.cap cv by omega]
                        · rw [concL_ext (Ren.bind_ext hnk) _ (okL_append htok hnok), concL_append, hct, List.take_append_of_le_length (by simp only [concL_length]; omega)]
                        · have : (l.take (len * i.size) ++ news).length + ((concL θ l ++ ex).drop (len * i.size + news.length)).length = l.length + ex.length := by
                            simp only [List.length_append, htake, List.length_drop, concL_length]; omega
                          rw [this]; exact hfr
                        · rw [Ren.bind_cap, show len + n + (k + θ.cap cv - (len + n)) = k + θ.cap cv by omega, ← hsz]
                          simp only [List.length_append, htake, List.length_drop, concL_length]; omega
                      · -- a new one
                        have hold : ∀ w1 : World, w1.heap = w.heap → (Builtin.firstCells i.size len (.slice (some ⟨θ.blk b, 0, none⟩) len (k + θ.cap cv))).run P w1 = .ok (concL θ (l.take (len * i.size))).toArray w1 := fun w1 hh => by
                          have := run_loadCells_list (P := P) w1 ⟨θ.blk b, 0, none⟩ (concL θ (l.take (len * i.size))) (fun j v hv => by
                            rw [add_none, Nat.zero_add, World.cell?]
                            simp only [hh, hw, Option.isSome_none, Bool.false_eq_true, if_false, List.getElem?_toArray]
                            have hj := (List.getElem?_eq_some_iff.1 hv).1
                            rw [concL_length, htake] at hj
                            rw [hct, List.getElem?_take_of_lt hj] at hv
                            rw [List.getElem?_append_left (by simp only [concL_length]; omega)]
                            exact hv)
                          rw [concL_length, htake] at this
                          exact this
                        exact grows_out (ty := ty) (t := h.objs.put b none) hr (fun b' o hb' => by
                          rw [T.get_put] at hb'
                          by_cases e : b' = b
                          · rw [if_pos e] at hb'; cases hb'
                          · rw [if_neg e] at hb'; exact hb') happ hlen (by omega) (by omega) d1 hz hfirst' hold htok hnok htake d5
                · cases hq
            · -- of a known capacity
              rename_i b off len cap
              have happ := mk (some ⟨θ.blk b, off, none⟩) len cap rfl
              cases hle : Nat.ble cap 2000000 && Nat.ble len cap with
              | false => rw [hle] at hq; cases hq
              | true =>
                rw [hle] at hq
                simp only [Bool.and_eq_true] at hle
                have hle1 := le_of_ble hle.1
                have hle2 := le_of_ble hle.2
                simp only [cond_true] at hq
                cases hfit : Nat.ble (len + n) cap with
                | true =>
                  rw [hfit] at hq
                  have hfit' := le_of_ble hfit
                  simp only [cond_true] at hq
                  split at hq
                  · rename_i l e' hb
                    rw [Option.map_eq_some_iff] at hq
                    obtain ⟨l', hs, rfl⟩ := hq
                    obtain ⟨o', w', ho', _, hst, hrep⟩ := storeCells_rep (P := P) hr hb hs hnok (.inl ⟨e', rfl⟩)
                    rw [ho' e' rfl] at hrep
                    exact ⟨θ, K, w', Ext.refl _ _, fun _ h => h, fun _ h => .inl h, append_fits happ hlen hfirst hfit' (by simp only [add_none]; exact hst), hsok, hrep⟩
                  · cases hq
                | false =>
                  rw [hfit] at hq
                  have hfit' : ¬ (len + n ≤ cap) := fun hle => by rw [Nat.ble_eq_true_of_le hle] at hfit; cases hfit
                  simp only [cond_false] at hq
                  split at hq
                  · rename_i olds fs hrd
                    simp only [Option.some.injEq] at hq; subst hq
                    have hold : ∀ w1 : World, w1.heap = w.heap → (Builtin.firstCells i.size len (.slice (some ⟨θ.blk b, off, none⟩) len cap)).run P w1 = .ok (concL θ olds).toArray w1 := fun w1 hh => by
                      obtain ⟨a, ha, hl⟩ := loads_heap (P := P) hrd hr w1 hh
                      simp only [conc, Value.pointer.injEq, Option.some.injEq] at ha
                      subst ha
                      exact hl
                    exact grows_out (ty := ty) (t := h.objs) hr (fun b o hb => hb) happ hlen (by omega) (by omega) d1 hz hfirst' hold (readCells_ok hrd hr.okAll) hnok (readCells_length hrd) d5
                  · cases hq
            · cases hq
        · cases hq
    · cases hq
  · cases hq
end
end Go.Proofs.YthjkejnmjbljfaaGreatDoor.Ev
