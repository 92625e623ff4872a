/-
  MORE DEEDS BEHIND A LIST THAT CAME IN: the cells of both, one behind the other; by the author of this claim, in the calculus of runs. | 'counterpanelaw39.MineTwice': its closure; printed by the author's gen_two.py, in the calculus of runs. | THE LAW MineTwice: the greatest number; printed by the author's gen_two.py, in the calculus of runs.
-/
import Derived.Test.YtogagnopkkiniaaGreatDoorGoGD
import Derived.Test.YtogagnopkkiniaaGreatDoorEvGH
import Derived.Test.YtogagnopkkiniaaGreatDoorSpGB
namespace Go.Proofs.YtogagnopkkiniaaGreatDoor.gone
open Go Go.Proofs.YtogagnopkkiniaaGreatDoor.Ev

/-- The cells of a deed that the law makes. -/
def newC (d : D) : List SV := deedC d (.lit (.int .i64 0)) (.lit (.int .i64 0)) (.lit (.int .i64 0)) (.lit (.int .i64 0)) tailS
theorem newC_len (d : D) : (newC d).length = 39 := rfl
theorem newC_one (d : D) : (newC d).all SV.one = true := rfl
/-- Cells of deeds, deed by deed. -/
def Els (es : List (List SV)) (ds : List D) : Prop := es.length = ds.length ∧ ∀ (k : Nat) d, ds[k]? = some d → ∃ c3 c4 c5 c6 rest, rest.length = 30 ∧ (deedC d c3 c4 c5 c6 rest).all SV.one = true ∧ es[k]? = some (deedC d c3 c4 c5 c6 rest)
theorem Els.nil : Els [] [] := ⟨rfl, fun k d h => by simp at h⟩
theorem Els.new (xs : List D) : Els (xs.map newC) xs := ⟨by rw [List.length_map], fun k d h => ⟨_, _, _, _, tailS, rfl, newC_one d, by rw [List.getElem?_map, h]; rfl⟩⟩
theorem Els.append {es es' : List (List SV)} {ds ds' : List D} (h : Els es ds) (h' : Els es' ds') : Els (es ++ es') (ds ++ ds') := by
  refine ⟨by rw [List.length_append, List.length_append, h.1, h'.1], fun k d hd => ?_⟩
  by_cases hk : k < ds.length
  · rw [List.getElem?_append_left hk] at hd
    rw [List.getElem?_append_left (by rw [h.1]; exact hk)]
    exact h.2 k d hd
  · rw [List.getElem?_append_right (by omega)] at hd
    rw [List.getElem?_append_right (by rw [h.1]; omega), h.1]
    exact h'.2 _ d hd
theorem Els.mem {es : List (List SV)} {ds : List D} (h : Els es ds) : ∀ c ∈ es, c.length = 39 ∧ c.all SV.one = true := fun c hc => by
  obtain ⟨k, hk⟩ := List.getElem?_of_mem hc
  have hkl : k < ds.length := by rw [← h.1]; exact (List.getElem?_eq_some_iff.1 hk).1
  obtain ⟨c3, c4, c5, c6, rest, h1, h2, h3⟩ := h.2 k ds[k] (List.getElem?_eq_getElem hkl)
  rw [hk] at h3
  obtain rfl := Option.some.inj h3
  exact ⟨deedC_len h1, h2⟩
theorem Els.len {es : List (List SV)} {ds : List D} (h : Els es ds) : es.flatten.length = ds.length * 39 := by
  rw [flat_len fun c hc => (h.mem c hc).1, h.1]
theorem Els.one {es : List (List SV)} {ds : List D} (h : Els es ds) : es.flatten.all SV.one = true := by
  rw [List.all_eq_true]
  intro v hv
  obtain ⟨c, hc, hvc⟩ := List.mem_flatten.1 hv
  exact List.all_eq_true.1 (h.mem c hc).2 v hvc

theorem cut_join {l x y : List SV} {o a b : Nat} (h1 : cut l o a = some x) (h2 : cut l (o + a) b = some y) : cut l o (a + b) = some (x ++ y) := by
  simp only [cut] at h1 h2 ⊢
  cases hb : Nat.beq ((l.drop o).take a).length a with
  | false => rw [hb] at h1; cases h1
  | true =>
    cases hc : Nat.beq ((l.drop (o + a)).take b).length b with
    | false => rw [hc] at h2; cases h2
    | true =>
      rw [hb, cond_true, Option.some.injEq] at h1
      rw [hc, cond_true, Option.some.injEq] at h2
      have e1 := Nat.eq_of_beq_eq_true hb
      have e2 := Nat.eq_of_beq_eq_true hc
      have e : (l.drop o).take (a + b) = x ++ y := by
        rw [List.take_add, h1, List.drop_drop, h2]
      rw [e, ← h1, ← h2, List.length_append, e1, e2, beq_t rfl, cond_true]
theorem cut_pieces {l : List SV} : ∀ (es : List (List SV)) (o : Nat), (∀ (k : Nat) c, es[k]? = some c → cut l (o + k * 39) 39 = some c) → cut l o (es.length * 39) = some es.flatten
  | [], o, _ => by
    simp only [List.length_nil, Nat.zero_mul, List.flatten_nil, cut, List.take_zero]
    rfl
  | c :: es, o, h => by
    have h1 : cut l o 39 = some c := h 0 c rfl
    have h2 := cut_pieces es (o + 39) fun k x hx => by
      have h3 := h (k + 1) x (by rw [List.getElem?_cons_succ]; exact hx)
      rw [show o + 39 + k * 39 = o + (k + 1) * 39 by omega]
      exact h3
    have h4 := cut_join h1 h2
    rw [List.length_cons, List.flatten_cons, show (es.length + 1) * 39 = 39 + es.length * 39 by omega]
    exact h4
theorem GL.src {Γ : Glob} {L : SV} {ds : List D} (hl : GL Γ L ds) : ∃ es, Els es ds ∧ ∀ h, srcCells Γ h 39 L = some (es.flatten, ds.length) := by
  rcases hl with ⟨p, c, rfl, rfl⟩ | ⟨g, off, cap, rfl, hr⟩
  · exact ⟨[], Els.nil, fun h => rfl⟩
  · cases ds with
    | nil => exact ⟨[], Els.nil, fun h => rfl⟩
    | cons d0 ds0 =>
      have hch : ∀ k, ∃ c : List SV, ∀ d, (d0 :: ds0)[k]? = some d → (∃ c3 c4 c5 c6 rest, rest.length = 30 ∧ (deedC d c3 c4 c5 c6 rest).all SV.one = true ∧ c = deedC d c3 c4 c5 c6 rest) ∧ ∀ h', readCells Γ h' (.lit (.pointer (some ⟨g, off + k * 39, none⟩))) 39 = some (c, []) := fun k => by
        cases hk : (d0 :: ds0)[k]? with
        | none => exact ⟨[], fun d hd => by cases hd⟩
        | some d =>
          obtain ⟨c3, c4, c5, c6, rest, h1, h2, h3⟩ := hr k d hk
          exact ⟨_, fun d' hd' => by cases hd'; exact ⟨⟨c3, c4, c5, c6, rest, h1, h2, rfl⟩, h3⟩⟩
      obtain ⟨f, hf⟩ := Classical.axiomOfChoice hch
      have hlen : ((List.range (d0 :: ds0).length).map f).length = (d0 :: ds0).length := by rw [List.length_map, List.length_range]
      have hels : Els ((List.range (d0 :: ds0).length).map f) (d0 :: ds0) := by
        refine ⟨hlen, fun k d hd => ?_⟩
        obtain ⟨⟨c3, c4, c5, c6, rest, h1, h2, h3⟩, _⟩ := hf k d hd
        refine ⟨c3, c4, c5, c6, rest, h1, h2, ?_⟩
        rw [List.getElem?_map, List.getElem?_range (List.getElem?_eq_some_iff.1 hd).1, Option.map_some, h3]
      refine ⟨_, hels, fun h => ?_⟩
      have hz := (hf 0 d0 rfl).2 h
      simp only [readCells] at hz
      cases hg : Γ.get g with
      | none => rw [hg] at hz; cases hz
      | some cs =>
        have hp : cut (cs.map SV.lit) off ((((List.range (d0 :: ds0).length).map f)).length * 39) = some ((List.range (d0 :: ds0).length).map f).flatten := cut_pieces _ _ fun k c hc => by
          rw [List.getElem?_map, Option.map_eq_some_iff] at hc
          obtain ⟨k', hk', rfl⟩ := hc
          have hkl : k < (d0 :: ds0).length := by have := (List.getElem?_eq_some_iff.1 hk').1; simpa using this
          rw [List.getElem?_range hkl] at hk'
          obtain rfl := Option.some.inj hk'
          have hrd := (hf k _ (List.getElem?_eq_getElem hkl)).2 h
          simp only [readCells, hg, Option.bind_some] at hrd
          cases hcut : cut (cs.map SV.lit) (off + k * 39) 39 with
          | none => rw [hcut] at hrd; cases hrd
          | some vs =>
            rw [hcut] at hrd
            simp only [Option.some.injEq, Prod.mk.injEq, and_true] at hrd
            rw [hrd]
        rw [hlen] at hp
        show (match readCells Γ h (.lit (.pointer (some ⟨g, off, none⟩))) ((d0 :: ds0).length * 39) with
          | some (vs, _) => some (vs, (d0 :: ds0).length)
          | none => none) = _
        simp only [readCells, hg, Option.bind_some, hp]
end Go.Proofs.YtogagnopkkiniaaGreatDoor.gone
namespace Go.Proofs.YtogagnopkkiniaaGreatDoor.gone
open Go Go.Proofs.YtogagnopkkiniaaGreatDoor.Ev Go.Proofs.YtogagnopkkiniaaGreatDoor.snap

theorem infoD : ∃ i z, Tryz.prog.info? 42 = some i ∧ i.zero = some z ∧ i.size = 39 ∧ i.bytes ≤ 1000 ∧ (SV.cells (.lit z)).length = 39 := infoDeed
/-- A list that is appended to an empty one. -/
theorem app_first {Γ : Glob} {h : Hp} {b0 : Nat} {L : SV} {ds : List D} (hb : h.objs.get b0 = some (.cells [] 42)) (hL : GL Γ L ds) (hn : ds.length ≤ 1000) :
    ∃ v1 H1 es, appendE Tryz.prog Γ h [22, 22] (.slice b0 0 0 0) L = some (v1, H1) ∧ Els es ds ∧ h.next ≤ H1.next ∧ (∀ b, b < h.next → b ≠ b0 → H1.objs.get b = h.objs.get b) ∧ ((ds = [] ∧ v1 = .slice b0 0 0 0 ∧ H1.objs.get b0 = some (.cells [] 42)) ∨ (v1 = .row h.next 0 ds.length ds.length h.next ∧ h.next < H1.next ∧ H1.objs.get h.next = some (.row es.flatten 42 ds.length h.next 39))) := by
  obtain ⟨es, hes, hsrc⟩ := hL.src
  obtain ⟨i, z, hi, hz, hsz, hby, hzs⟩ := infoD
  have hlen := hes.len
  have hcond : (Nat.ble i.bytes 1000 && Nat.ble ds.length 2000000 && Nat.blt 0 39 && Nat.beq (SV.cells (.lit z)).length 39 && Nat.beq es.flatten.length (ds.length * 39)) = true := by
    rw [Nat.ble_eq_true_of_le hby, Nat.ble_eq_true_of_le (show ds.length ≤ 2000000 by omega), beq_t hzs, beq_t hlen]
    rfl
  have hc2 : (Nat.ble 0 2000000 && Nat.ble 0 0) = true := rfl
  by_cases h0 : ds.length = 0
  · have hd : ds = [] := List.eq_nil_of_length_eq_zero h0
    have hf : es.flatten = [] := by
      rw [h0, Nat.zero_mul] at hlen
      exact List.eq_nil_of_length_eq_zero hlen
    refine ⟨.slice b0 0 0 0, h.upd b0 (.cells [] 42), es, ?_, hes, Nat.le_refl _, fun b _ hne => get_ne hne, .inl ⟨hd, rfl, get_same⟩⟩
    simp only [appendE, tyDeeds, hi, hz, hsz, hsrc, isIntD, cond_false, hcond, cond_true, hc2]
    rw [h0, show Nat.ble (0 + 0) 0 = true from rfl, cond_true, hb, hf]
    rfl
  · have hold : readCells Γ h (.ptr b0 0) (0 * 39) = some ([], [.cells b0 0 []]) := by
      simp only [readCells, knownCells, hb, Option.bind_some]
      rfl
    refine ⟨(newRowE h ([] ++ es.flatten) 42 (0 + ds.length) 39).1, (newRowE h ([] ++ es.flatten) 42 (0 + ds.length) 39).2, es, ?_, hes, Nat.le_succ _, fun b hb _ => get_ne (Nat.ne_of_lt hb), .inr ⟨?_, Nat.lt_succ_self _, ?_⟩⟩
    · simp only [appendE, tyDeeds, hi, hz, hsz, hsrc, isIntD, cond_false, hcond, cond_true, hc2]
      rw [show Nat.ble (0 + ds.length) 0 = false from by
        cases hb : Nat.ble (0 + ds.length) 0 with
        | false => rfl
        | true => have := Nat.le_of_ble_eq_true hb; omega, cond_false, hold]
    · simp only [newRowE, Nat.zero_add]
    · simp only [newRowE, T.get_set, if_true, Nat.zero_add, List.nil_append]
/-- More deeds behind it. -/
theorem app_second {Γ : Glob} {h H1 : Hp} {b0 nb : Nat} {v1 : SV} {es : List (List SV)} {ds xs : List D} (hes : Els es ds) (hx0 : 0 < xs.length) (hn : ds.length ≤ 1000) (hxn : xs.length ≤ 1000) (hh : h.next ≤ H1.next) (hnb : H1.objs.get nb = some (.cells ((xs.map newC).flatten) 42)) (_hnbl : nb < h.next)
    (hv : (ds = [] ∧ v1 = .slice b0 0 0 0 ∧ H1.objs.get b0 = some (.cells [] 42)) ∨ (v1 = .row h.next 0 ds.length ds.length h.next ∧ h.next < H1.next ∧ H1.objs.get h.next = some (.row es.flatten 42 ds.length h.next 39))) :
    ∃ H2, appendE Tryz.prog Γ H1 [22, 22] v1 (.slice nb 0 xs.length xs.length) = some (.row H1.next 0 (ds ++ xs).length (ds ++ xs).length H1.next, H2) ∧ H2.next = H1.next + 1 ∧ (∀ b, b < h.next → H2.objs.get b = H1.objs.get b) ∧ H2.objs.get H1.next = some (.row (es ++ xs.map newC).flatten 42 (ds ++ xs).length H1.next 39) := by
  obtain ⟨i, z, hi, hz, hsz, hby, hzs⟩ := infoD
  have hxe := Els.new xs
  have hxl := hxe.len
  have hdl := hes.len
  have hcut : cut ((xs.map newC).flatten) 0 (xs.length * 39) = some (xs.map newC).flatten := by rw [← hxl]; exact cut_whole _
  have hsrc : srcCells Γ H1 39 (.slice nb 0 xs.length xs.length) = some ((xs.map newC).flatten, xs.length) := by
    simp only [srcCells, readCells, knownCells, hnb, Option.bind_some, hcut]
  have hcond : (Nat.ble i.bytes 1000 && Nat.ble xs.length 2000000 && Nat.blt 0 39 && Nat.beq (SV.cells (.lit z)).length 39 && Nat.beq ((xs.map newC).flatten).length (xs.length * 39)) = true := by
    rw [Nat.ble_eq_true_of_le hby, Nat.ble_eq_true_of_le (show xs.length ≤ 2000000 by omega), beq_t hzs, beq_t hxl]
    rfl
  have hone := hxe.one
  rcases hv with ⟨rfl, rfl, hb0⟩ | ⟨rfl, hlt, hrow⟩
  · have he0 : es = [] := List.eq_nil_of_length_eq_zero hes.1
    subst he0
    have hold : readCells Γ H1 (.ptr b0 0) (0 * 39) = some ([], [.cells b0 0 []]) := by
      simp only [readCells, knownCells, hb0, Option.bind_some]
      rfl
    refine ⟨(newRowE H1 ([] ++ (xs.map newC).flatten) 42 (0 + xs.length) 39).2, ?_, rfl, fun b hb => get_ne (by omega), ?_⟩
    · simp only [appendE, tyDeeds, hi, hz, hsz, hsrc, isIntD, cond_false, hcond, cond_true]
      rw [show (Nat.ble 0 2000000 && Nat.ble 0 0) = true from rfl, cond_true, show Nat.ble (0 + xs.length) 0 = false from by
        cases hb : Nat.ble (0 + xs.length) 0 with
        | false => rfl
        | true => have := Nat.le_of_ble_eq_true hb; omega, cond_false, hold]
      simp only [newRowE, Nat.zero_add, List.nil_append]
    · simp only [newRowE, T.get_set, if_true, Nat.zero_add, List.nil_append]
  · have htake : es.flatten.take (ds.length * 39) = es.flatten := by rw [← hdl]; exact List.take_length
    refine ⟨(newRowE ⟨H1.objs.put h.next none, H1.next⟩ (es.flatten.take (ds.length * 39) ++ (xs.map newC).flatten) 42 (ds.length + xs.length) 39).2, ?_, rfl, fun b hb => ?_, ?_⟩
    · have hle : Nat.ble (ds.length * 39) es.flatten.length = true := Nat.ble_eq_true_of_le (by rw [hdl]; exact Nat.le_refl _)
      have hn0 : Nat.beq xs.length 0 = false := beq_f (by omega)
      simp only [appendE, tyDeeds, hi, hz, hsz, hsrc, isIntD, cond_false, hcond, cond_true, Nat.ble_eq_true_of_le (show ds.length ≤ 2000000 by omega), hrow, beq_t rfl, Nat.ble_eq_true_of_le (Nat.le_refl _), hle, hone, hn0, Bool.and_self]
      simp only [newRowE, List.length_append]
    · simp only [newRowE, T.get_set, T.get_put]
      rw [if_neg (by omega), if_neg (by omega)]
    · rw [htake]
      simp only [newRowE, T.get_set, if_true, List.length_append, List.flatten_append]
theorem cut_flat39 : ∀ (es : List (List SV)) (k : Nat) (c : List SV), (∀ x ∈ es, x.length = 39) → es[k]? = some c → cut es.flatten (k * 39) 39 = some c
  | [], _, _, _, h => by simp at h
  | a :: es, 0, c, hl, h => by
    obtain rfl : a = c := by simpa using h
    have ha := hl a (List.mem_cons_self ..)
    have : ((a ++ es.flatten).drop (0 * 39)).take 39 = a := by
      rw [Nat.zero_mul, List.drop_zero, List.take_append_of_le_length (by omega), List.take_of_length_le (by omega)]
    rw [List.flatten_cons]
    simp only [cut, this, ha, beq_t, cond_true]
  | a :: es, k + 1, c, hl, h => by
    have ih := cut_flat39 es k c (fun x hx => hl x (List.mem_cons_of_mem _ hx)) (by simpa using h)
    have ha := hl a (List.mem_cons_self ..)
    rw [List.flatten_cons]
    simp only [cut] at ih ⊢
    rw [show (a ++ es.flatten).drop ((k + 1) * 39) = es.flatten.drop (k * 39) by
      rw [Nat.succ_mul, Nat.add_comm (k * 39) 39, ← List.drop_drop]
      rw [show (a ++ es.flatten).drop 39 = es.flatten by rw [← ha, List.drop_left]]]
    exact ih
theorem cut_els {es : List (List SV)} {ds : List D} {k : Nat} {c : List SV} (hes : Els es ds) (h : es[k]? = some c) : cut es.flatten (k * 39) 39 = some c := cut_flat39 es k c (fun x hx => (hes.mem x hx).1) h
theorem same_ints (a b : Int) : SV.sameL [.lit (.int .i64 a), .lit (.int .i64 b)] [.lit (.int .i64 a), .lit (.int .i64 b)] = true := by simp [SV.sameL, SV.same, litSame]
set_option maxRecDepth 20000 in
/-- Such a row is a list of deeds. -/
theorem row_lst {Γ : Glob} {h : Hp} {bl : Nat} {es : List (List SV)} {ds : List D} (hes : Els es ds) (hb : At h bl (.row es.flatten 42 ds.length bl 39)) : Lst Γ h.next h (.row bl 0 ds.length ds.length bl) ds := by
  refine ⟨fun h' => by simp only [lenQ, tyDeeds]; rfl, fun k d hd => ?_⟩
  have hk := (List.getElem?_eq_some_iff.1 hd).1
  obtain ⟨c3, c4, c5, c6, rest, h1, h2, h3⟩ := hes.2 k d hd
  refine ⟨_, c3, c4, c5, c6, rest, h1, h2, rowIdx hk, fun h' kk => ⟨_, load_row rfl rfl (hb.kept kk).get (cut_els hes h3)⟩⟩
noncomputable def cOps : Array Oper := opsOf (seqL (seqR (bodyOf Tryz.f6)))
set_option maxHeartbeats 8000000 in
set_option maxRecDepth 20000 in
/-- The closure: is the deed gone, when more is done? -/
theorem with_runs (Γ : Glob) (h : Hp) (B2 B3 nb : Nat) (L : SV) (ds xs : List D) (q m : Int) (hx0 : 0 < xs.length) (hn : ds.length ≤ 1000) (hxn : xs.length ≤ 1000) (hL : GL Γ L ds) (hsame : SV.sameL [L] [L] = true) (b2 : At h B2 (.cells [L] 22)) (b3 : At h B3 (.cells [.lit (.int .i64 q), .lit (.int .i64 m)] 24)) (bx : At h nb (.cells ((xs.map newC).flatten) 42)) :
    Runs Tryz.prog Γ (.call 6 [.slice nb 0 xs.length xs.length, .ptr B2 0, .ptr B3 0] h) (Tells h (.lit (.bool (G (ds ++ xs) q m)))) := by
  generalize hh0 : (⟨h.objs.set h.next (.cells [] 42), h.next + 1⟩ : Hp) = h0
  have hn0 : h0.next = h.next + 1 := by rw [← hh0]
  have kk0 : Kept h.next h h0 := ⟨by omega, fun c hc => by rw [← hh0]; exact get_ne (Nat.ne_of_lt hc)⟩
  have hb0 : h0.objs.get h.next = some (.cells [] 42) := by rw [← hh0]; exact get_same
  obtain ⟨v1, H1, es, happ1, hes, hle1, hold1, hv1⟩ := app_first (Γ := Γ) hb0 hL hn
  have kk1 : Kept h.next h H1 := ⟨by omega, fun c hc => (hold1 c (by omega) (by omega)).trans (kk0.old c hc)⟩
  obtain ⟨H2, happ2, hn2, hold2, hrow2⟩ := app_second (Γ := Γ) hes hx0 hn hxn hle1 (bx.kept kk1).get (by have := bx.lt; omega) hv1
  have kk2 : Kept h.next h H2 := ⟨by omega, fun c hc => (hold2 c (by omega)).trans (kk1.old c hc)⟩
  have b2_1 := b2.kept kk0
  have b3_1 := b3.kept kk0
  have b2_2 := b2.kept kk1
  have b3_2 := b3.kept kk1
  have b2_3 := b2.kept kk2
  have b3_3 := b3.kept kk2
  have hlst : Lst Γ H2.next H2 _ (ds ++ xs) := row_lst (hes.append (Els.new xs)) ⟨by omega, hrow2⟩
  have hlen : (ds ++ xs).length ≤ 1000000 := by rw [List.length_append]; omega
  refine runs_call Tryz.func6 rfl ?_
  refine runs_seq ?_
  refine runs_region ?_
  refine ops_q (v := .lit (.bool false)) (fs := []) rfl rfl rfl rfl ?_
  refine ops_nil ?_
  refine runs_seq ?_
  refine runs_drawn (ops := cOps) rfl ?_
  have t_cOps_5_0 : Nat.testBit (descOf 5 cOps.toList 0 0) 0 = false := rfl
  have t_cOps_1_0 : Nat.testBit (descOf 1 cOps.toList 0 0) 0 = false := rfl
  have f_cOps_5_0 := fact_cells b3_1 (off := 0) (vs := [.lit (.int .i64 q), .lit (.int .i64 m)]) rfl (same_ints q m)
  have f_cOps_1_0 := fact_cells b2_1 (off := 0) (vs := [L]) rfl hsame
  refine drawn_effect (i := 0) (v := .slice h.next 0 0 0) (h2 := h0) (m' := 42) (held' := [⟨descOf 5 cOps.toList 0 0, [.cells B3 0 [.lit (.int .i64 q), .lit (.int .i64 m)]], none⟩, ⟨descOf 1 cOps.toList 0 0, [.cells B2 0 [L]], none⟩]) (hp' := h) (by
    refine take_loud rfl rfl rfl rfl rfl ?_
    refine take_f (v := L) (fact := .cells B2 0 [L]) rfl rfl rfl (by simp only [quiet, ev_set]; exact load_cell rfl b2.get rfl) rfl rfl ?_
    refine take_wait rfl rfl ?_
    refine take_q (v := .slice nb 0 xs.length xs.length) rfl rfl rfl rfl rfl rfl ?_
    refine take_wait rfl rfl ?_
    refine take_f (v := .agg [.lit (.int .i64 q), .lit (.int .i64 m)]) (fact := .cells B3 0 [.lit (.int .i64 q), .lit (.int .i64 m)]) rfl rfl rfl (by simp only [quiet, ev_set]; exact load_cut rfl rfl b3.get rfl) rfl rfl ?_
    refine take_wait rfl rfl ?_
    refine take_wait rfl rfl ?_
    rfl) (by rfl) (by rfl) (by rfl) (by rw [← hh0]; rfl) (by omega) rfl rfl (by simp only [factsStand, t_cOps_5_0, t_cOps_1_0, cond_false, List.all_cons, List.all_nil, f_cOps_5_0, f_cOps_1_0, Bool.or_true, Bool.and_true]) ?_
  rw [show drop 0 [⟨descOf 5 cOps.toList 0 0, [.cells B3 0 [.lit (.int .i64 q), .lit (.int .i64 m)]], none⟩, ⟨descOf 1 cOps.toList 0 0, [.cells B2 0 [L]], none⟩] = [⟨descOf 5 cOps.toList 0 0, [.cells B3 0 [.lit (.int .i64 q), .lit (.int .i64 m)]], none⟩, ⟨descOf 1 cOps.toList 0 0, [.cells B2 0 [L]], none⟩] from by simp only [drop, t_cOps_5_0, t_cOps_1_0, cond_false]]
  have t_cOps_5_2 : Nat.testBit (descOf 5 cOps.toList 0 0) 2 = false := rfl
  have t_cOps_1_2 : Nat.testBit (descOf 1 cOps.toList 0 0) 2 = true := rfl
  have f_cOps_5_2 := fact_cells b3_2 (off := 0) (vs := [.lit (.int .i64 q), .lit (.int .i64 m)]) rfl (same_ints q m)
  refine drawn_effect (i := 2) (v := v1) (h2 := H1) (m' := 43) (held' := [⟨descOf 5 cOps.toList 0 0, [.cells B3 0 [.lit (.int .i64 q), .lit (.int .i64 m)]], none⟩, ⟨descOf 1 cOps.toList 0 0, [.cells B2 0 [L]], none⟩]) (hp' := h0) (by
    refine take_done rfl ?_
    refine take_done rfl ?_
    refine take_loud rfl rfl rfl rfl rfl ?_
    refine take_done rfl ?_
    refine take_wait rfl rfl ?_
    refine take_done rfl ?_
    refine take_wait rfl rfl ?_
    refine take_wait rfl rfl ?_
    rfl) (by rfl) (by rfl) (by rfl) (by exact congrArg Ev.val happ1) hle1 rfl rfl (by simp only [factsStand, t_cOps_5_2, t_cOps_1_2, cond_true, cond_false, List.all_cons, List.all_nil, f_cOps_5_2, Bool.or_true, Bool.and_true]) ?_
  rw [show drop 2 [⟨descOf 5 cOps.toList 0 0, [.cells B3 0 [.lit (.int .i64 q), .lit (.int .i64 m)]], none⟩, ⟨descOf 1 cOps.toList 0 0, [.cells B2 0 [L]], none⟩] = [⟨descOf 5 cOps.toList 0 0, [.cells B3 0 [.lit (.int .i64 q), .lit (.int .i64 m)]], none⟩] from by simp only [drop, t_cOps_5_2, t_cOps_1_2, cond_true, cond_false]]
  have t_cOps_5_4 : Nat.testBit (descOf 5 cOps.toList 0 0) 4 = false := rfl
  have f_cOps_5_4 := fact_cells b3_3 (off := 0) (vs := [.lit (.int .i64 q), .lit (.int .i64 m)]) rfl (same_ints q m)
  refine drawn_effect (i := 4) (v := .row H1.next 0 (ds ++ xs).length (ds ++ xs).length H1.next) (h2 := H2) (m' := 47) (held' := [⟨descOf 5 cOps.toList 0 0, [.cells B3 0 [.lit (.int .i64 q), .lit (.int .i64 m)]], none⟩]) (hp' := H1) (by
    refine take_done rfl ?_
    refine take_done rfl ?_
    refine take_done rfl ?_
    refine take_done rfl ?_
    refine take_loud rfl rfl rfl rfl rfl ?_
    refine take_done rfl ?_
    refine take_wait rfl rfl ?_
    refine take_wait rfl rfl ?_
    rfl) (by rfl) (by rfl) (by rfl) (by exact congrArg Ev.val happ2) (by omega) rfl rfl (by simp only [factsStand, t_cOps_5_4, cond_false, List.all_cons, List.all_nil, f_cOps_5_4, Bool.or_true, Bool.and_true]) ?_
  rw [show drop 4 [⟨descOf 5 cOps.toList 0 0, [.cells B3 0 [.lit (.int .i64 q), .lit (.int .i64 m)]], none⟩] = [⟨descOf 5 cOps.toList 0 0, [.cells B3 0 [.lit (.int .i64 q), .lit (.int .i64 m)]], none⟩] from by simp only [drop, t_cOps_5_4, cond_false]]
  have t_cOps_5_6 : Nat.testBit (descOf 5 cOps.toList 0 0) 6 = true := rfl
  refine drawn_c (i := 6) (f := 5) (args := [.row H1.next 0 (ds ++ xs).length (ds ++ xs).length H1.next, .agg [.lit (.int .i64 q), .lit (.int .i64 m)]]) (m' := 63) (held' := [⟨descOf 5 cOps.toList 0 0, [.cells B3 0 [.lit (.int .i64 q), .lit (.int .i64 m)]], none⟩]) (hp := H2) (by
    refine take_done rfl ?_
    refine take_done rfl ?_
    refine take_done rfl ?_
    refine take_done rfl ?_
    refine take_done rfl ?_
    refine take_done rfl ?_
    refine take_loud rfl rfl rfl rfl rfl ?_
    refine take_wait rfl rfl ?_
    rfl) (by rfl) (by rfl) (by rfl) (clone_body Tryz.func5 rfl) rfl rfl ?_
  refine (gone_runs Γ H2.next H2 _ (ds ++ xs) q m hlen hlst (Nat.le_refl _)).mono ?_
  rintro ⟨ex6, fr6, H6, v6⟩ ⟨hv6, k6⟩
  have hv6 : v6 = .lit (.bool (G (ds ++ xs) q m)) := hv6
  subst hv6
  have k6 : Kept H2.next H2 H6 := k6
  refine ⟨_, rfl, (by simp only [factsStand, t_cOps_5_6, cond_true, List.all_cons, List.all_nil, Bool.and_true]), ?_⟩
  rw [show drop 6 [⟨descOf 5 cOps.toList 0 0, [.cells B3 0 [.lit (.int .i64 q), .lit (.int .i64 m)]], none⟩] = [] from by simp only [drop, t_cOps_5_6, cond_true]]
  refine drawn_end (m' := 255) (held' := []) (hp' := H6) (by
    refine take_done rfl ?_
    refine take_done rfl ?_
    refine take_done rfl ?_
    refine take_done rfl ?_
    refine take_done rfl ?_
    refine take_done rfl ?_
    refine take_done rfl ?_
    refine take_q (v := .lit (.bool (G (ds ++ xs) q m))) rfl rfl rfl rfl rfl rfl ?_
    rfl) (by rfl) (by rfl) ?_
  refine runs_ret ?_
  exact ⟨_, rfl, rfl, kk2.trans (k6.less kk2.next)⟩
end Go.Proofs.YtogagnopkkiniaaGreatDoor.gone
namespace Go.Proofs.YtogagnopkkiniaaGreatDoor.gone
open Go Go.Proofs.YtogagnopkkiniaaGreatDoor.Ev Go.Proofs.YtogagnopkkiniaaGreatDoor.snap

noncomputable def tLoop : Code := (inBlk (seqR (seqL (seqR (seqR (seqR (bodyOf Tryz.f3)))))))
noncomputable def tB : Code := (inBlk (seqL (seqR (inLoop tLoop))))
noncomputable def tOps : Array Oper := opsOf tB
theorem max2 (P : Program) (a b : Int) : pureRun P (Builtin.max_ #[3, 3] 0 #[.int .i64 a, .int .i64 b]) = some (.int .i64 (max a b)) := by
  have h : (if b > a then b else a) = max a b := by
    by_cases hh : b > a
    · rw [if_pos hh]; omega
    · rw [if_neg hh]; omega
  rw [← h]
  rfl
theorem max3 (P : Program) (a b c : Int) : pureRun P (Builtin.max_ #[3, 3, 3] 0 #[.int .i64 a, .int .i64 b, .int .i64 c]) = some (.int .i64 (max (max a b) c)) := by
  have h : (if b > a then b else a) = max a b := by
    by_cases hh : b > a
    · rw [if_pos hh]; omega
    · rw [if_neg hh]; omega
  have h2 : (if c > max a b then c else max a b) = max (max a b) c := by
    by_cases hh : c > max a b
    · rw [if_pos hh]; omega
    · rw [if_neg hh]; omega
  rw [← h2, ← h]
  rfl
theorem max2_quiet {Γ : Glob} {h : Hp} {ρ : Operand → SV} {x y : Operand} {a b : Int} (hx : ρ x = .lit (.int .i64 a)) (hy : ρ y = .lit (.int .i64 b)) : quiet Tryz.prog Γ h ρ (.call ⟨.builtin .max, #[x, y], #[3, 3]⟩) = some (.lit (.int .i64 (max a b)), []) := by
  simp only [quiet, List.map_cons, List.map_nil, hx, hy, SV.toLitL, SV.toLit]
  show one ((pureRun Tryz.prog (Builtin.max_ #[3, 3] 0 #[.int .i64 a, .int .i64 b])).map .lit) = _
  rw [max2]
  rfl
theorem max3_quiet {Γ : Glob} {h : Hp} {ρ : Operand → SV} {x y z : Operand} {a b c : Int} (hx : ρ x = .lit (.int .i64 a)) (hy : ρ y = .lit (.int .i64 b)) (hz : ρ z = .lit (.int .i64 c)) : quiet Tryz.prog Γ h ρ (.call ⟨.builtin .max, #[x, y, z], #[3, 3, 3]⟩) = some (.lit (.int .i64 (max (max a b) c)), []) := by
  simp only [quiet, List.map_cons, List.map_nil, hx, hy, hz, SV.toLitL, SV.toLit]
  show one ((pureRun Tryz.prog (Builtin.max_ #[3, 3, 3] 0 #[.int .i64 a, .int .i64 b, .int .i64 c])).map .lit) = _
  rw [max3]
  rfl
set_option maxRecDepth 20000 in
/-- A deed's numbers can be read. -/
theorem GL.nums {Γ : Glob} {L : SV} {ds : List D} (hl : GL Γ L ds) {k : Nat} {d : D} (hd : ds[k]? = some d) : ∃ g o, indexAddrQ Tryz.prog 22 L (.lit (.int .i64 (Int.ofNat k))) = some (.lit (.pointer (some ⟨g, o, none⟩))) ∧ ∀ h', loadQ Tryz.prog Γ h' 3 (.lit (.pointer (some ⟨g, o + 0 + 1, none⟩))) = some (.lit (.int .i64 d.n), []) ∧ loadQ Tryz.prog Γ h' 3 (.lit (.pointer (some ⟨g, o + 7 + 1, none⟩))) = some (.lit (.int .i64 d.tn), []) := by
  rcases hl with ⟨p, c, rfl, rfl⟩ | ⟨g, off, cap, rfl, hr⟩
  · simp at hd
  · obtain ⟨c3, c4, c5, c6, rest, h1, h2, h3⟩ := hr k d hd
    refine ⟨g, off + k * 39, litIdx (List.getElem?_eq_some_iff.1 hd).1, fun h' => ?_⟩
    have h3 := h3 h'
    simp only [readCells] at h3
    cases hg : (Γ.get g).bind fun cs => cut (cs.map .lit) (off + k * 39) 39 with
    | none => rw [hg] at h3; cases h3
    | some vs =>
      rw [hg] at h3
      simp only [Option.some.injEq, Prod.mk.injEq, and_true] at h3
      subst h3
      obtain ⟨cs, hcs, hcut⟩ := Option.bind_eq_some_iff.1 hg
      have hat : ∀ j v, (deedC d c3 c4 c5 c6 rest)[j]? = some v → cut (cs.map SV.lit) (off + k * 39 + j) 1 = some [v] := fun j v hj => by
        simp only [cut] at hcut ⊢
        cases hb : Nat.beq (((cs.map SV.lit).drop (off + k * 39)).take 39).length 39 with
        | false => rw [hb] at hcut; cases hcut
        | true =>
          rw [hb, cond_true, Option.some.injEq] at hcut
          have hj39 : j < 39 := by
            have := (List.getElem?_eq_some_iff.1 hj).1
            rw [deedC_len h1] at this
            exact this
          rw [← hcut, List.getElem?_take_of_lt hj39, List.getElem?_drop] at hj
          have : ((cs.map SV.lit).drop (off + k * 39 + j)).take 1 = [v] := by rw [List.take_one, List.head?_drop, hj]; rfl
          rw [this]
          rfl
      have agg3 : tyAgg Tryz.prog 3 = some false := rfl
      have e1 := hat 1 _ rfl
      have e8 := hat 8 _ rfl
      constructor
      · simp only [loadQ, agg3, readCells, hcs, Option.bind_some]
        rw [show off + k * 39 + 0 + 1 = off + k * 39 + 1 by omega, e1]
      · simp only [loadQ, agg3, readCells, hcs, Option.bind_some]
        rw [show off + k * 39 + 7 + 1 = off + k * 39 + 8 by omega, e8]
set_option maxHeartbeats 8000000 in
set_option maxRecDepth 20000 in
theorem t_body (Γ : Glob) (B2 : Nat) (L : SV) (ds : List D) (hL : GL Γ L ds) (k : Nat) (d : D) (hd : ds[k]? = some d) (N : Int) (tm : T SV) (h : Hp) (e2 : Fr.ev ⟨tm, 124, []⟩ (.tmp 2) = .ptr B2 0) (e5 : Fr.ev ⟨tm, 124, []⟩ (.tmp 5) = .lit (.int .i64 N)) (e6 : Fr.ev ⟨tm, 124, []⟩ (.tmp 6) = .lit (.int .i64 (Int.ofNat k))) (b2 : At h B2 (.cells [L] 22)) :
    Runs Tryz.prog Γ (.code tB none ⟨tm, 124, []⟩ h) fun o => ∃ tm' v0, o = ⟨.normal, ⟨tm', 124, []⟩, h, v0⟩ ∧ (∀ t ∈ [2, 3, 6], Fr.ev ⟨tm', 124, []⟩ (.tmp t) = Fr.ev ⟨tm, 124, []⟩ (.tmp t)) ∧ Fr.ev ⟨tm', 124, []⟩ (.tmp 5) = .lit (.int .i64 (max (max N d.n) d.tn)) := by
  obtain ⟨g, o, hidx, hrd⟩ := hL.nums hd
  refine runs_drawn (ops := tOps) rfl ?_
  refine drawn_end (m' := 32767) (held' := [⟨descOf 7 tOps.toList 0 0, [.cells B2 0 [L]], none⟩, ⟨descOf 1 tOps.toList 0 0, [.cells B2 0 [L]], none⟩]) (hp' := h) (by
    refine take_q (v := .lit (.int .i64 N)) rfl rfl rfl (by simp only [quiet, e5] <;> rfl) rfl rfl ?_
    refine take_f (v := L) (fact := .cells B2 0 [L]) rfl rfl rfl (by simp only [quiet, ev_set, e2]; exact load_cell rfl b2.get rfl) rfl rfl ?_
    refine take_q (v := .lit (.int .i64 (Int.ofNat k))) rfl rfl rfl (by simp only [quiet, ev_set, e6] <;> rfl) rfl rfl ?_
    refine take_q (v := .lit (.pointer (some ⟨g, o, none⟩))) rfl rfl rfl (by simp only [quiet, ev_set]; exact congrArg one hidx) rfl rfl ?_
    refine take_q (v := .lit (.pointer (some ⟨g, o + 0, none⟩))) rfl rfl rfl rfl rfl rfl ?_
    refine take_q (v := .lit (.pointer (some ⟨g, o + 0 + 1, none⟩))) rfl rfl rfl rfl rfl rfl ?_
    refine take_q (v := .lit (.int .i64 d.n)) rfl rfl rfl (by simp only [quiet, ev_set]; exact (hrd _).1) rfl rfl ?_
    refine take_f (v := L) (fact := .cells B2 0 [L]) rfl rfl rfl (by simp only [quiet, ev_set, e2]; exact load_cell rfl b2.get rfl) rfl rfl ?_
    refine take_q (v := .lit (.int .i64 (Int.ofNat k))) rfl rfl rfl (by simp only [quiet, ev_set, e6] <;> rfl) rfl rfl ?_
    refine take_q (v := .lit (.pointer (some ⟨g, o, none⟩))) rfl rfl rfl (by simp only [quiet, ev_set]; exact congrArg one hidx) rfl rfl ?_
    refine take_q (v := .lit (.pointer (some ⟨g, o + 7, none⟩))) rfl rfl rfl rfl rfl rfl ?_
    refine take_q (v := .lit (.pointer (some ⟨g, o + 7 + 1, none⟩))) rfl rfl rfl rfl rfl rfl ?_
    refine take_q (v := .lit (.int .i64 d.tn)) rfl rfl rfl (by simp only [quiet, ev_set]; exact (hrd _).2) rfl rfl ?_
    refine take_q (v := .lit (.int .i64 (max (max N d.n) d.tn))) rfl rfl rfl (max3_quiet (by simp only [ev_set] <;> rfl) (by simp only [ev_set] <;> rfl) (by simp only [ev_set] <;> rfl)) rfl rfl ?_
    refine take_q (v := .lit (.int .i64 (max (max N d.n) d.tn))) rfl rfl rfl rfl rfl rfl ?_
    rfl) (by rfl) (by rfl) ?_
  exact ⟨_, _, rfl, slots3 (by simp only [ev_set] <;> rfl) (by simp only [ev_set] <;> rfl) (by simp only [ev_set] <;> rfl), by simp only [ev_set] <;> rfl⟩
/-- The greatest number. -/
def topN (N : Int) (ds : List D) : Int := ds.foldl (fun N d => max (max N d.n) d.tn) N
theorem topN_ge : ∀ (ds : List D) (N : Int), N ≤ topN N ds ∧ ∀ d ∈ ds, d.n ≤ topN N ds ∧ d.tn ≤ topN N ds
  | [], N => ⟨Int.le_refl _, fun _ h => by cases h⟩
  | d :: ds, N => by
    obtain ⟨h1, h2⟩ := topN_ge ds (max (max N d.n) d.tn)
    have e : topN N (d :: ds) = topN (max (max N d.n) d.tn) ds := rfl
    rw [e]
    refine ⟨by omega, fun x hx => ?_⟩
    rcases List.mem_cons.1 hx with rfl | hx
    · constructor <;> omega
    · exact h2 x hx

set_option maxHeartbeats 8000000 in
set_option maxRecDepth 20000 in
theorem t_loop (Γ : Glob) (B2 : Nat) (L : SV) (ds : List D) (hn : ds.length ≤ 1000) (hL : GL Γ L ds) (h : Hp) (b2 : At h B2 (.cells [L] 22)) : ∀ (rem k : Nat), k + rem = ds.length → ∀ (tm : T SV) (N : Int), Fr.ev ⟨tm, 124, []⟩ (.tmp 2) = .ptr B2 0 → Fr.ev ⟨tm, 124, []⟩ (.tmp 5) = .lit (.int .i64 N) → Fr.ev ⟨tm, 124, []⟩ (.tmp 6) = .lit (.int .i64 (Int.ofNat k)) →
    Runs Tryz.prog Γ (.code tLoop none ⟨tm, 124, []⟩ h) fun o => ∃ tm' v0, o = ⟨.exit 0, ⟨tm', 124, []⟩, h, v0⟩ ∧ Fr.ev ⟨tm', 124, []⟩ (.tmp 2) = .ptr B2 0 ∧ Fr.ev ⟨tm', 124, []⟩ (.tmp 3) = Fr.ev ⟨tm, 124, []⟩ (.tmp 3) ∧ Fr.ev ⟨tm', 124, []⟩ (.tmp 5) = .lit (.int .i64 (topN N (ds.drop k))) := by
  have hlen := (hL.lst 0 h).1
  intro rem
  induction rem with
  | zero =>
    intro k hk tm N e2 e5 e6
    obtain rfl : k = ds.length := by omega
    refine runs_loop ?_
    refine runs_seq (runs_seq (runs_region ?_))
    refine ops_q (v := .lit (.int .i64 (Int.ofNat ds.length))) (fs := []) rfl (by simp only [quiet, e6]) rfl rfl ?_
    refine ops_q (v := L) (fs := [.cells B2 0 [L]]) rfl (by simp only [quiet, ev_set, e2]; exact load_cell rfl b2.get rfl) rfl rfl ?_
    refine ops_q (v := .lit (.int .i64 (Int.ofNat ds.length))) (fs := []) rfl (by simp only [quiet]; exact hlen _) rfl rfl ?_
    refine ops_q (v := .lit (.bool false)) (fs := []) rfl (by simp only [quiet, ev_set]; exact congrArg one (lssF (Int.lt_irrefl _))) rfl rfl ?_
    refine ops_nil ?_
    refine runs_cond false rfl (runs_exit ?_)
    refine ⟨_, _, rfl, ?_, ?_, ?_⟩
    · simp only [ev_set]; exact e2
    · simp only [ev_set]; rfl
    · rw [List.drop_length]; simp only [ev_set]; exact e5
  | succ rem ih =>
    intro k hk tm N e2 e5 e6
    have hkl : k < ds.length := by omega
    have hd : ds[k]? = some ds[k] := List.getElem?_eq_getElem hkl
    have hdr : ds.drop k = ds[k] :: ds.drop (k + 1) := List.drop_eq_getElem_cons hkl
    rw [hdr]
    generalize ds[k] = d at hd
    refine runs_loop ?_
    refine runs_seq (runs_seq (runs_region ?_))
    refine ops_q (v := .lit (.int .i64 (Int.ofNat k))) (fs := []) rfl (by simp only [quiet, e6]) rfl rfl ?_
    refine ops_q (v := L) (fs := [.cells B2 0 [L]]) rfl (by simp only [quiet, ev_set, e2]; exact load_cell rfl b2.get rfl) rfl rfl ?_
    refine ops_q (v := .lit (.int .i64 (Int.ofNat ds.length))) (fs := []) rfl (by simp only [quiet]; exact hlen _) rfl rfl ?_
    refine ops_q (v := .lit (.bool true)) (fs := []) rfl (by simp only [quiet, ev_set]; exact congrArg one (lssT (Int.ofNat_lt.2 hkl))) rfl rfl ?_
    refine ops_nil ?_
    refine runs_cond true rfl (runs_skip ?_)
    refine runs_seq (runs_block ((t_body Γ B2 L ds hL k d hd N _ h (by simp only [ev_set]; exact e2) (by simp only [ev_set]; exact e5) (by simp only [ev_set]; exact e6) b2).mono ?_))
    rintro o ⟨tm', v0, rfl, hs, s5⟩
    rw [show ∀ fr hp v, atEnd 1 ⟨.normal, fr, hp, v⟩ = ⟨.normal, fr, hp, v⟩ from fun _ _ _ => rfl]
    have s2 := hs 2 (by decide)
    have s3 := hs 3 (by decide)
    have s6 := hs 6 (by decide)
    simp only [ev_set] at s2 s3 s6
    have s2 : Fr.ev ⟨tm', 124, []⟩ (.tmp 2) = .ptr B2 0 := s2.trans e2
    have s3 : Fr.ev ⟨tm', 124, []⟩ (.tmp 3) = Fr.ev ⟨tm, 124, []⟩ (.tmp 3) := s3
    have s6 : Fr.ev ⟨tm', 124, []⟩ (.tmp 6) = .lit (.int .i64 (Int.ofNat k)) := s6.trans e6
    refine runs_region ?_
    refine ops_q (v := .lit (.int .i64 (Int.ofNat k))) (fs := []) rfl (by simp only [quiet, s6]) rfl rfl ?_
    refine ops_q (v := .lit (.int .i64 (Int.ofNat (k + 1)))) (fs := []) rfl (by simp only [quiet, ev_set]; exact congrArg one (addQ (c := Int.ofNat (k + 1)) rfl (by simp only [Int.ofNat_eq_natCast]; omega) (by simp only [Int.ofNat_eq_natCast]; omega))) rfl rfl ?_
    refine ops_q (v := .lit (.int .i64 (Int.ofNat (k + 1)))) (fs := []) rfl rfl rfl rfl ?_
    refine ops_nil ?_
    refine (ih (k + 1) (by omega) _ (max (max N d.n) d.tn) ?_ ?_ ?_).mono ?_
    · simp only [ev_set]; exact s2
    · simp only [ev_set]; exact s5
    · simp only [ev_set]; rfl
    · rintro o ⟨tm2, v2, rfl, q1, q2, q3⟩
      refine ⟨tm2, v2, rfl, q1, ?_, q3⟩
      rw [q2]
      simp only [ev_set]
      exact s3

end Go.Proofs.YtogagnopkkiniaaGreatDoor.gone
