/-
  WHAT 'counterpanelaw27.Plain' COMES TO, for every edit that can be read; by the author of this claim, in the calculus of runs.
-/
import Derived.Test.YthjkejnmjbljfaaGreatDoorUndoNilS
namespace Go.Proofs.YthjkejnmjbljfaaGreatDoor.undoNil
open Go Go.Proofs.YthjkejnmjbljfaaGreatDoor.Ev

def inLoop : Code → Code
  | .loop c => c
  | c => c
def opsOf : Code → Array Oper
  | .region _ ops _ => ops
  | _ => #[]
noncomputable def plainLoop : Code := inBlk (seqR (seqL (seqR (seqR (bodyOf Tryz.f18)))))
noncomputable def plainOps : Array Oper := opsOf (inBlk (seqL (seqR (inLoop plainLoop))))

/-- What the list of an edit that is made is. -/
def RowAt (h : Hp) (lo bl : Nat) (Lv : SV) (l : List (List SV)) : Prop :=
  (Lv = .lit (.slice none 0 0) ∧ l = []) ∨ (Lv = .row bl 0 l.length l.length bl ∧ lo ≤ bl ∧ bl < h.next ∧ h.objs.get bl = some (.row l.flatten 64 l.length bl 40))

set_option maxRecDepth 10000 in
theorem info64 : ∃ i z, Tryz.prog.info? 64 = some i ∧ i.zero = some z ∧ i.size = 40 ∧ i.bytes ≤ 1000 ∧ (SV.cells (.lit z)).length = 40 := ⟨_, _, rfl, rfl, rfl, by decide, rfl⟩
set_option maxRecDepth 10000 in
theorem zero64 : ∃ z, tyZero Tryz.prog 64 = some z ∧ (SV.cells (.lit z)).length = 40 ∧ (SV.cells (.lit z)).drop 39 = [.lit (.slice none 0 0)] := ⟨_, rfl, rfl, rfl⟩

set_option maxRecDepth 10000 in
theorem tyU62 : tyU Tryz.prog 62 = some (.slice 64) := rfl
theorem RowAt.same {h : Hp} {lo bl : Nat} {Lv : SV} {l : List (List SV)} (hr : RowAt h lo bl Lv l) : SV.one Lv = true ∧ SV.sameL [Lv] [Lv] = true := by
  rcases hr with ⟨rfl, _⟩ | ⟨rfl, _⟩
  · exact ⟨rfl, rfl⟩
  · refine ⟨rfl, ?_⟩
    simp [SV.sameL, SV.same]

/-- **append of one.** -/
theorem append_row {Γ : Glob} {h : Hp} {lo bl nb : Nat} {Lv : SV} {l : List (List SV)} {c : List SV} (hr : RowAt h lo bl Lv l) (hlen : ∀ x ∈ l, x.length = 40) (hc : c.length = 40) (hone : c.all SV.one = true) (hn : l.length ≤ 2000000) (hlo : lo ≤ h.next)
    (hnb : h.objs.get nb = some (.cells c 64)) :
    ∃ v' h', appendE Tryz.prog Γ h [62, 62] Lv (.slice nb 0 1 1) = some (v', h') ∧ RowAt h' lo h.next v' (l ++ [c]) ∧ h'.next = h.next + 1 ∧ ∀ b, b < h.next → (Lv = .lit (.slice none 0 0) ∨ b ≠ bl) → h'.objs.get b = h.objs.get b := by
  obtain ⟨i, z, hi, hz, hsz, hby, hzs⟩ := info64
  have hst := tyU62
  have hsrc : srcCells Γ h i.size (.slice nb 0 1 1) = some (c, 1) := by
    simp only [srcCells, readCells, knownCells, hnb, Option.bind_some, hsz, Nat.one_mul, cut_all hc]
  have hcond : (Nat.ble i.bytes 1000 && Nat.ble 1 2000000 && Nat.blt 0 i.size && Nat.beq (SV.cells (.lit z)).length i.size && Nat.beq c.length (1 * i.size)) = true := by
    rw [Nat.ble_eq_true_of_le hby, hsz, beq_t hzs, beq_t (show c.length = 1 * 40 by omega)]
    rfl
  have hflen : l.flatten.length = l.length * 40 := by
    clear hn hr
    induction l with
    | nil => rfl
    | cons a l ih =>
      rw [List.flatten_cons, List.length_append, hlen a (List.mem_cons_self ..), ih fun x hx => hlen x (List.mem_cons_of_mem _ hx), List.length_cons]
      omega
  rcases hr with ⟨rfl, rfl⟩ | ⟨rfl, h1, h2, h3⟩
  · refine ⟨(newRowE h c 64 1 i.size).1, (newRowE h c 64 1 i.size).2, ?_, .inr ⟨rfl, hlo, Nat.lt_succ_self _, ?_⟩, rfl, fun b hb _ => ?_⟩
    · simp only [appendE, hst, hi, hz, hsrc, isIntD, cond_false, hcond, cond_true, beq_f (show (1 : Nat) ≠ 0 by decide)]
    · simp only [newRowE, T.get_set, if_true, hsz]
      rw [List.nil_append, List.flatten_singleton]
      rfl
    · simp only [newRowE, T.get_set]
      rw [if_neg (by omega)]
  · have htake : l.flatten.take (l.length * i.size) = l.flatten := by rw [hsz, ← hflen]; exact List.take_length
    refine ⟨(newRowE ⟨h.objs.put bl none, h.next⟩ (l.flatten.take (l.length * i.size) ++ c) 64 (l.length + 1) i.size).1, (newRowE ⟨h.objs.put bl none, h.next⟩ (l.flatten.take (l.length * i.size) ++ c) 64 (l.length + 1) i.size).2, ?_, .inr ⟨?_, hlo, Nat.lt_succ_self _, ?_⟩, rfl, fun b hb hne => ?_⟩
    · have hle : Nat.ble (l.length * i.size) l.flatten.length = true := Nat.ble_eq_true_of_le (by rw [hflen, hsz]; exact Nat.le_refl _)
      simp only [appendE, hst, hi, hz, hsrc, isIntD, cond_false, hcond, cond_true, Nat.ble_eq_true_of_le hn, h3, beq_t rfl, beq_t hsz.symm, Nat.ble_eq_true_of_le (Nat.le_refl _), hle, hone, beq_f (show (1 : Nat) ≠ 0 by decide), Bool.and_self]
    · simp only [newRowE, List.length_append, List.length_singleton]
    · rw [htake]
      simp only [newRowE, T.get_set, if_true, hsz, List.length_append, List.length_singleton, List.flatten_append, List.flatten_singleton]
    · simp only [newRowE, T.get_set, T.get_put]
      rw [if_neg (by omega), if_neg (hne.resolve_left (by intro hh; cases hh))]

theorem last_at {cs : List SV} {v : SV} (h : cs.length = 40) : (cs.take 39 ++ [v])[39]? = some v := by
  rw [List.getElem?_append_right (by rw [List.length_take]; omega), List.length_take, h]
  rfl
theorem last_cut {cs : List SV} {v : SV} (h : cs.length = 40) : cut (cs.take 39 ++ [v]) 39 1 = some [v] := by
  have : ((cs.take 39 ++ [v]).drop 39).take 1 = [v] := by rw [List.take_one, List.head?_drop, last_at h]; rfl
  simp only [cut, this]; rfl
theorem last_splice {cs : List SV} {v v' : SV} (h : cs.length = 40) (hv : SV.one v' = true) : splice (cs.take 39 ++ [v]) 39 [v'] = some (cs.take 39 ++ [v']) := by
  have hl : (cs.take 39).length = 39 := by rw [List.length_take]; omega
  have h1 : Nat.ble (39 + [v'].length) (cs.take 39 ++ [v]).length = true := Nat.ble_eq_true_of_le (by simp [hl])
  have h2 : (cs.take 39 ++ [v]).take 39 = cs.take 39 := by rw [List.take_left' hl]
  have h3 : (cs.take 39 ++ [v]).drop (39 + [v'].length) = [] := List.drop_eq_nil_of_le (by simp [hl])
  simp only [splice, h1, h2, h3, List.all_cons, List.all_nil, hv, Bool.and_self, cond_true, List.append_nil]
theorem cells_one {v : SV} (h : SV.one v = true) : v.cells = [v] := by
  unfold SV.cells
  split
  · cases h
  · cases h
  · rfl
theorem local_store {P : Program} {h : Hp} {ρ : Operand → SV} {t : TypeId} {a x : Operand} {b off n : Nat} {v : SV} {l l' : List SV} {e : TypeId} (hs : tySize P t = some n) (ha : ρ a = .ptr b off) (hx : ρ x = v) (hl : v.cells.length = n) (hb : h.objs.get b = some (.cells l e)) (hsp : splice l off v.cells = some l') :
    localE P h ρ (.store t a x) = some (.lit undef, b, .cells l' e, h.next) := by
  simp only [localE, hs, ha, hx, beq_t hl, cond_true, hb, hsp, Option.map_some]
theorem leans {h : Hp} {O : Nat} {cs : List SV} {v : SV} {e : TypeId} (hl : cs.length = 40) (hO : h.objs.get O = some (.cells (cs.take 39 ++ [v]) e)) (hs : SV.sameL [v] [v] = true) : factHolds h (.cells O 39 [v]) = true := by
  simp only [factHolds, knownCells, hO, Option.bind_some, List.length_singleton, last_cut hl, hs]

set_option maxHeartbeats 8000000 in
set_option maxRecDepth 20000 in
theorem plain_round (Γ : Glob) (cs : List SV) (B O lo bl k g off cap len f : Nat) (Lv : SV) (x : List SV × Nat) (ks : List (List SV × Nat)) (tm : T SV) (h : Hp) (Φ : Out → Prop) (hcs : cs.length = 40) (hk : k < len) (hkn : ks.length ≤ 1048576)
    (hL : cs[39]? = some (.lit (.slice (some ⟨g, off, none⟩) len cap))) (hread : ∀ h, readCells Γ h (.lit (.pointer (some ⟨g, off + k * 40, none⟩))) 40 = some (x.1, []))
    (ih : ∀ h : Hp, Runs Tryz.prog Γ (.call 18 [.agg x.1] h) fun r => ∃ c, r.v = .agg c ∧ IsPl Γ r.hp (fun b => h.next ≤ b) f c x.2 ∧ Kept h.next h r.hp)
    (e1 : Fr.ev ⟨tm, 37, []⟩ (.tmp 1) = .ptr B 0) (e3 : Fr.ev ⟨tm, 37, []⟩ (.tmp 3) = .ptr O 0) (e4 : Fr.ev ⟨tm, 37, []⟩ (.tmp 4) = .lit (.int .i64 (Int.ofNat k)))
    (hB : h.objs.get B = some (.cells cs 41)) (hO : h.objs.get O = some (.cells (cs.take 39 ++ [Lv]) 64)) (hOl : O < lo) (hlo : lo ≤ h.next)
    (hrow : RowAt h lo bl Lv (ks.map (·.1))) (hbl : lo ≤ bl) (hks : ∀ y ∈ ks, IsPl Γ h (fun b => lo ≤ b ∧ b ≠ bl) f y.1 y.2)
    (hΦ : ∀ (tm' : T SV) (h' : Hp) (Lv' : SV) (bl' : Nat) (c : List SV), (∀ t, t < 25 → Fr.ev ⟨tm', 37, []⟩ (.tmp t) = Fr.ev ⟨tm, 37, []⟩ (.tmp t)) → h'.objs.get O = some (.cells (cs.take 39 ++ [Lv']) 64) → (∀ b, b < lo → b ≠ O → h'.objs.get b = h.objs.get b) → h.next ≤ h'.next →
      lo ≤ bl' → RowAt h' lo bl' Lv' ((ks ++ [(c, x.2)]).map (·.1)) → (∀ y ∈ ks ++ [(c, x.2)], IsPl Γ h' (fun b => lo ≤ b ∧ b ≠ bl') f y.1 y.2) → Φ ⟨.normal, ⟨tm', 37, []⟩, h', .lit undef⟩) :
    RunsDrawn Tryz.prog Γ plainOps 13 0 [] ⟨tm, 37, []⟩ h Φ := by
  obtain ⟨hLone, hLsame⟩ := hrow.same
  have ht : takeAll Tryz.prog Γ plainOps plainOps.toList 0 0 [] ⟨tm, 37, []⟩ h = some (127, [⟨descOf 3 plainOps.toList 0 0, [.cells B 39 [.lit (.slice (some ⟨g, off, none⟩) len cap)]], none⟩, ⟨descOf 1 plainOps.toList 0 0, [.cells O 39 [Lv]], none⟩],
      ⟨((((((tm.set 25 (.ptr O 39)).set 26 Lv).set 27 (.ptr B 39)).set 28 (.lit (.slice (some ⟨g, off, none⟩) len cap))).set 29 (.lit (.int .i64 (Int.ofNat k)))).set 30 (.lit (.pointer (some ⟨g, off + k * 40, none⟩)))).set 31 (.agg x.1), 37, []⟩, h) := by
    refine take_quiet (v := .ptr O 39) rfl rfl rfl (by simp only [quiet, e3]; rfl) rfl ?_
    refine take_lean (v := Lv) (fs := .cells O 39 [Lv]) rfl rfl rfl (by simp only [quiet, ev_set]; exact load_cell rfl hO (last_at hcs)) rfl ?_
    refine take_quiet (v := .ptr B 39) rfl rfl rfl (by simp only [quiet, ev_set, e1]; rfl) rfl ?_
    refine take_lean (v := .lit (.slice (some ⟨g, off, none⟩) len cap)) (fs := .cells B 39 [.lit (.slice (some ⟨g, off, none⟩) len cap)]) rfl rfl rfl (by simp only [quiet, ev_set]; exact load_cell rfl hB hL) rfl ?_
    refine take_quiet (v := .lit (.int .i64 (Int.ofNat k))) rfl rfl rfl (by simp only [quiet, ev_set]; exact congrArg (fun v => some (v, [])) e4) rfl ?_
    refine take_quiet (v := .lit (.pointer (some ⟨g, off + k * 40, none⟩))) rfl rfl rfl (by
      have hq := index_lit (P := Tryz.prog) (t := 39) (e := 41) (s := 40) (g := g) (off := off) (cap := cap) rfl rfl hk
      simp only [quiet, ev_set]
      exact congrArg one hq) rfl ?_
    refine take_quiet (v := .agg x.1) rfl rfl rfl (by
      have hr := hread h
      simp only [quiet, ev_set, if_true, loadQ, show tyAgg Tryz.prog 41 = some true from rfl, show tySize Tryz.prog 41 = some 40 from rfl]
      rw [show readCells Γ _ _ 40 = _ from hread _]) rfl ?_
    refine take_loud rfl rfl rfl rfl rfl ?_
    refine take_wait rfl rfl ?_
    refine take_wait rfl rfl ?_
    refine take_wait rfl rfl ?_
    refine take_wait rfl rfl ?_
    rfl
  have d37 : Nat.testBit (descOf 3 plainOps.toList 0 0) 7 = true := rfl
  have d17 : Nat.testBit (descOf 1 plainOps.toList 0 0) 7 = false := rfl
  have d18 : Nat.testBit (descOf 1 plainOps.toList 0 0) 8 = false := rfl
  have d19 : Nat.testBit (descOf 1 plainOps.toList 0 0) 9 = true := rfl
  refine drawn_call (i := 7) (f := 18) (args := [.agg x.1]) ht rfl rfl (by simp [calleeOf, ev_set]; rfl) rfl ?_
  refine (ih h).mono fun r ⟨c, hrv, hpl, hrk⟩ => ?_
  have hOr : r.hp.objs.get O = some (.cells (cs.take 39 ++ [Lv]) 64) := (hrk.old O (by omega)).trans hO
  refine ⟨r.hp.objs, _, rfl, rfl, ?_, ?_⟩
  · simp only [factsStand, d37, d17, cond_true, cond_false, List.all_cons, List.all_nil, leans hcs hOr hLsame, Bool.or_true, Bool.and_true]
  rw [show drop 7 [⟨descOf 3 plainOps.toList 0 0, [.cells B 39 [.lit (.slice (some ⟨g, off, none⟩) len cap)]], none⟩, ⟨descOf 1 plainOps.toList 0 0, [.cells O 39 [Lv]], none⟩] = [⟨descOf 1 plainOps.toList 0 0, [.cells O 39 [Lv]], none⟩] from by simp only [drop, d37, d17, cond_true, cond_false]]
  rw [hrv]
  obtain ⟨hclen, hcone, _⟩ := hpl.len
  -- a slice of one
  refine drawn_effect (i := 8) (v := .slice r.hp.next 0 1 1) (h2 := ⟨r.hp.objs.set r.hp.next (.cells c 64), r.hp.next + 1⟩) (m' := 255) (held' := [⟨descOf 1 plainOps.toList 0 0, [.cells O 39 [Lv]], none⟩]) (by
    refine take_done rfl ?_
    refine take_done rfl ?_
    refine take_done rfl ?_
    refine take_done rfl ?_
    refine take_done rfl ?_
    refine take_done rfl ?_
    refine take_done rfl ?_
    refine take_done rfl ?_
    refine take_loud rfl rfl rfl rfl rfl ?_
    refine take_wait rfl rfl ?_
    refine take_wait rfl rfl ?_
    refine take_wait rfl rfl ?_
    rfl) rfl rfl rfl ?_ (Nat.le_succ _) rfl rfl ?_ ?_
  · obtain ⟨i, z, hi, hz, hsz, hby, hzs⟩ := info64
    have t1 : tySize Tryz.prog 64 = some 40 := rfl
    have t2 : tyZero Tryz.prog 64 = some z := by simp only [tyZero, hi, Option.bind_some, hz]
    have hrep : (repeatL (SV.cells (.lit z)) 1).length = 40 := by simp only [repeatL, List.append_nil, hzs]
    have hf : fillQ (fun i => some (i * 40, 40)) (repeatL (SV.cells (.lit z)) 1) [(0, .agg c)] = some c := fill_one (by rw [hrep]) (by rw [hrep, hclen]) hcone
    show val (buildSliceE Tryz.prog _ 62 1 [(0, .agg c)]) = _
    have hc : (Nat.ble (1 * 40) 16777216 && Nat.beq (SV.cells (.lit z)).length 40) = true := by rw [beq_t hzs]; rfl
    have h0 : Nat.beq (1 * 40) 0 = false := rfl
    simp only [buildSliceE, tyU62, t1, t2, hc, cond_true, h0, cond_false, hf, Hp.new, val, Option.map_some]
    rfl
  · have hO2 : (r.hp.objs.set r.hp.next (.cells c 64)).get O = some (.cells (cs.take 39 ++ [Lv]) 64) := by
      have := hrk.next
      rw [T.get_set, if_neg (by omega)]
      exact hOr
    simp only [factsStand, d18, cond_false, List.all_cons, List.all_nil, leans (h := ⟨r.hp.objs.set r.hp.next (.cells c 64), r.hp.next + 1⟩) hcs hO2 hLsame, Bool.or_true, Bool.and_true]
  rw [show drop 8 [⟨descOf 1 plainOps.toList 0 0, [.cells O 39 [Lv]], none⟩] = [⟨descOf 1 plainOps.toList 0 0, [.cells O 39 [Lv]], none⟩] from by simp only [drop, d18, cond_false]]
  -- append
  have hrn := hrk.next
  obtain ⟨h2, hh2⟩ : ∃ h2 : Hp, h2 = ⟨r.hp.objs.set r.hp.next (.cells c 64), r.hp.next + 1⟩ := ⟨_, rfl⟩
  rw [← hh2]
  have hn2 : h2.next = r.hp.next + 1 := by rw [hh2]
  have hget2 : ∀ b, b < r.hp.next → h2.objs.get b = r.hp.objs.get b := fun b hb => by rw [hh2]; show (r.hp.objs.set r.hp.next (.cells c 64)).get b = _; rw [T.get_set, if_neg (by omega)]
  have hnb : h2.objs.get r.hp.next = some (.cells c 64) := by rw [hh2]; show (r.hp.objs.set r.hp.next (.cells c 64)).get r.hp.next = _; rw [T.get_set, if_pos rfl]
  have hrow2 : RowAt h2 lo bl Lv (ks.map (·.1)) := by
    rcases hrow with hr | ⟨r1, r2, r3, r4⟩
    · exact .inl hr
    · exact .inr ⟨r1, r2, by omega, by rw [hget2 bl (by omega), hrk.old bl r3]; exact r4⟩
  obtain ⟨v', h3, happ, hrow3, hn3, hget3⟩ := append_row (Γ := Γ) (c := c) (nb := r.hp.next) hrow2 (fun y hy => by obtain ⟨z, hz, rfl⟩ := List.mem_map.1 hy; exact (hks z hz).len.1) hclen hcone (by rw [List.length_map]; omega) (by omega) hnb
  have hO3 : h3.objs.get O = some (.cells (cs.take 39 ++ [Lv]) 64) := by rw [hget3 O (by omega) (.inr (by omega)), hget2 O (by omega)]; exact hOr
  refine drawn_effect (i := 9) (v := v') (h2 := h3) (m' := 511) (held' := [⟨descOf 1 plainOps.toList 0 0, [.cells O 39 [Lv]], none⟩]) (by
    refine take_done rfl ?_
    refine take_done rfl ?_
    refine take_done rfl ?_
    refine take_done rfl ?_
    refine take_done rfl ?_
    refine take_done rfl ?_
    refine take_done rfl ?_
    refine take_done rfl ?_
    refine take_done rfl ?_
    refine take_loud rfl rfl rfl rfl rfl ?_
    refine take_wait rfl rfl ?_
    refine take_wait rfl rfl ?_
    rfl) rfl rfl rfl (by simp only [effect, ev_set]; exact congrArg val happ) (by show h2.next ≤ _; omega) rfl rfl ?_ ?_
  · simp only [factsStand, d19, cond_true, Bool.and_true]
  rw [show drop 9 [⟨descOf 1 plainOps.toList 0 0, [.cells O 39 [Lv]], none⟩] = [] from by simp only [drop, d19, cond_true]]
  -- the store
  have hvone : SV.one v' = true := hrow3.same.1
  refine drawn_end (m' := 4095) (held' := [⟨descOf 11 plainOps.toList 0 0, [], some (O, .cells (cs.take 39 ++ [v']) 64)⟩]) (hp' := ⟨h3.objs.set O (.cells (cs.take 39 ++ [v']) 64), h3.next⟩) (by
    refine take_done rfl ?_
    refine take_done rfl ?_
    refine take_done rfl ?_
    refine take_done rfl ?_
    refine take_done rfl ?_
    refine take_done rfl ?_
    refine take_done rfl ?_
    refine take_done rfl ?_
    refine take_done rfl ?_
    refine take_done rfl ?_
    refine take_quiet (v := .ptr O 39) rfl rfl rfl (by simp only [quiet, ev_set, e3]; rfl) rfl ?_
    refine take_local (v := .lit undef) (b := O) (nx := h3.next) (ob := .cells (cs.take 39 ++ [v']) 64) rfl rfl rfl rfl (by
      refine local_store (n := 1) (v := v') (l := cs.take 39 ++ [Lv]) rfl (by simp only [ev_set]; rfl) (by simp only [ev_set]; rfl) (by rw [cells_one hvone]; rfl) hO3 (by rw [cells_one hvone]; exact last_splice hcs hvone)) rfl rfl ?_
    rfl) rfl rfl ?_
  have hmap : (ks.map (·.1)) ++ [c] = (ks ++ [(c, x.2)]).map (·.1) := by rw [List.map_append]; rfl
  have hfin : ∀ b, b ≠ O → (h3.objs.set O (.cells (cs.take 39 ++ [v']) 64)).get b = h3.objs.get b := fun b hb => by rw [T.get_set, if_neg hb]
  refine hΦ _ _ v' h2.next c (fun t ht => ?_) ?_ (fun b hb hne => ?_) (by show _ ≤ h3.next; omega) (by omega) ?_ fun y hy => ?_
  · have hne : ∀ d : Nat, 25 ≤ d → ¬ t = d := fun d hd e => by
      have ht' : Nat.lt t 25 := ht
      rw [e] at ht'
      exact absurd ht' (Nat.not_lt.2 hd)
    simp only [ev_set, if_neg (hne 25 (by decide)), if_neg (hne 26 (by decide)), if_neg (hne 27 (by decide)), if_neg (hne 28 (by decide)), if_neg (hne 29 (by decide)), if_neg (hne 30 (by decide)), if_neg (hne 31 (by decide)), if_neg (hne 32 (by decide)), if_neg (hne 33 (by decide)), if_neg (hne 34 (by decide)), if_neg (hne 35 (by decide))]
  · show (h3.objs.set O _).get O = _
    rw [T.get_set, if_pos rfl]
  · show (h3.objs.set O _).get b = _
    rw [hfin b hne, hget3 b (by omega) (.inr (by omega)), hget2 b (by omega), hrk.old b (by omega)]
  · rw [← hmap]
    rcases hrow3 with hr | ⟨r1, r2, r3, r4⟩
    · exact .inl hr
    · exact .inr ⟨r1, r2, r3, (hfin _ (by omega)).trans r4⟩
  · rcases List.mem_append.1 hy with hy | hy
    · refine IsPl.mono (h := h) (by show _ ≤ h3.next; omega) (fun b ⟨hb1, hb2⟩ hb3 => ⟨⟨hb1, by omega⟩, ?_⟩) f y.1 y.2 (hks y hy)
      show (h3.objs.set O _).get b = _
      rw [hfin b (by omega), hget3 b (by omega) (.inr hb2), hget2 b (by omega), hrk.old b hb3]
    · obtain rfl := List.mem_singleton.1 hy
      refine IsPl.mono (h := r.hp) (by show _ ≤ h3.next; omega) (fun b hb1 hb3 => ⟨⟨by omega, by omega⟩, ?_⟩) f c x.2 hpl
      show (h3.objs.set O _).get b = _
      rw [hfin b (by omega), hget3 b (by omega) ?_, hget2 b hb3]
      rcases hrow with ⟨r1, _⟩ | ⟨_, _, r3, _⟩
      · exact .inl r1
      · exact .inr (by omega)

set_option maxHeartbeats 8000000 in
set_option maxRecDepth 20000 in
theorem plain_loop (Γ : Glob) (cs : List SV) (kids : List (List SV × Nat)) (B O lo f : Nat) (hcs : cs.length = 40) (hkn : kids.length ≤ 1048576) (hk : KidsAt Γ 40 cs[39]? (kids.map (·.1))) (hBl : B < lo) (hOl : O < lo) (hBO : B ≠ O)
    (ih : ∀ x ∈ kids, ∀ h : Hp, Runs Tryz.prog Γ (.call 18 [.agg x.1] h) fun r => ∃ c, r.v = .agg c ∧ IsPl Γ r.hp (fun b => h.next ≤ b) f c x.2 ∧ Kept h.next h r.hp) :
    ∀ (rem k : Nat), k + rem = kids.length → ∀ (tm : T SV) (h : Hp) (Lv : SV) (bl : Nat) (ks : List (List SV × Nat)), Fr.ev ⟨tm, 37, []⟩ (.tmp 1) = .ptr B 0 → Fr.ev ⟨tm, 37, []⟩ (.tmp 3) = .ptr O 0 → Fr.ev ⟨tm, 37, []⟩ (.tmp 4) = .lit (.int .i64 (Int.ofNat k)) →
      h.objs.get B = some (.cells cs 41) → h.objs.get O = some (.cells (cs.take 39 ++ [Lv]) 64) → lo ≤ h.next → ks.map (·.2) = (kids.take k).map (·.2) → RowAt h lo bl Lv (ks.map (·.1)) → lo ≤ bl → (∀ y ∈ ks, IsPl Γ h (fun b => lo ≤ b ∧ b ≠ bl) f y.1 y.2) →
      Runs Tryz.prog Γ (.code plainLoop none ⟨tm, 37, []⟩ h) fun o => o.exit = .exit 0 ∧ ∃ (tm' : T SV) (Lv' : SV) (bl' : Nat) (ks' : List (List SV × Nat)), o.fr = ⟨tm', 37, []⟩ ∧ Fr.ev ⟨tm', 37, []⟩ (.tmp 2) = Fr.ev ⟨tm, 37, []⟩ (.tmp 2) ∧ Fr.ev ⟨tm', 37, []⟩ (.tmp 3) = .ptr O 0 ∧ o.hp.objs.get O = some (.cells (cs.take 39 ++ [Lv']) 64) ∧
        ks'.map (·.2) = kids.map (·.2) ∧ RowAt o.hp lo bl' Lv' (ks'.map (·.1)) ∧ (∀ y ∈ ks', IsPl Γ o.hp (fun b => lo ≤ b ∧ b ≠ bl') f y.1 y.2) ∧ (∀ b, b < lo → b ≠ O → o.hp.objs.get b = h.objs.get b) ∧ h.next ≤ o.hp.next := by
  have hL : ∃ Lx, cs[39]? = some (.lit Lx) ∧ ∀ h, lenQ Tryz.prog h 39 (.lit Lx) = some (.lit (.int .i64 kids.length), []) := by
    rcases hk with ⟨_, _, h1, h2⟩ | ⟨g, off, cap, h1, _⟩
    · have : kids = [] := by simpa using h2
      subst this
      exact ⟨_, h1, fun _ => rfl⟩
    · rw [List.length_map] at h1
      exact ⟨_, h1, fun _ => rfl⟩
  obtain ⟨Lx, hLx, hlenQ⟩ := hL
  intro rem
  induction rem with
  | zero =>
    intro k hkr tm h Lv bl ks e1 e3 e4 hB hO hlo hks hrow hbl hpl
    have hkl : k = kids.length := by omega
    refine runs_loop ?_
    refine runs_seq (runs_seq (runs_region ?_))
    refine ops_quiet rfl rfl rfl ?_
    rw [e4]
    refine ops_quiet (v := .ptr B 39) (fs := []) rfl (by simp only [quiet, ev_set, e1]; rfl) rfl ?_
    refine ops_quiet (v := .lit Lx) (fs := [.cells B 39 [.lit Lx]]) rfl (by simp only [quiet, ev_set]; exact load_cell rfl hB hLx) rfl ?_
    refine ops_quiet (v := .lit (.int .i64 kids.length)) (fs := []) rfl (hlenQ h) rfl ?_
    refine ops_quiet (v := .lit (.bool (decide ((k : Int) < kids.length)))) (fs := []) rfl rfl rfl ?_
    refine ops_nil ?_
    have hd : decide ((k : Int) < kids.length) = false := decide_eq_false (by omega)
    rw [hd]
    refine runs_cond false (by simp [ev_set]) ?_
    refine runs_exit ?_
    refine ⟨rfl, _, Lv, bl, ks, rfl, ?_, ?_, hO, ?_, hrow, hpl, fun _ _ _ => rfl, Nat.le_refl _⟩
    · simp only [ev_set]; rfl
    · simp only [ev_set]; exact e3
    · rw [hks, hkl, List.take_length]
  | succ rem ihr =>
    intro k hkr tm h Lv bl ks e1 e3 e4 hB hO hlo hks hrow hbl hpl
    have hkl : k < kids.length := by omega
    obtain ⟨g, off, cap, hLs, hread⟩ : ∃ g off cap, Lx = .slice (some ⟨g, off, none⟩) kids.length cap ∧ ∀ k cs, (kids.map (·.1))[k]? = some cs → ∀ h, readCells Γ h (.lit (.pointer (some ⟨g, off + k * 40, none⟩))) 40 = some (cs, []) := by
      rcases hk with ⟨_, _, _, h2⟩ | ⟨g, off, cap, h1, h2⟩
      · have : kids = [] := by simpa using h2
        subst this
        simp at hkl
      · rw [hLx] at h1
        rw [List.length_map] at h1
        exact ⟨g, off, cap, by injection h1 with h1; injection h1, h2⟩
    subst hLs
    obtain ⟨x, hx, hxm⟩ : ∃ x, kids[k]? = some x ∧ x ∈ kids := ⟨kids[k], List.getElem?_eq_getElem hkl, List.getElem_mem hkl⟩
    have hksl : ks.length = k := by
      have := congrArg List.length hks
      simp only [List.length_map, List.length_take] at this
      omega
    refine runs_loop ?_
    refine runs_seq (runs_seq (runs_region ?_))
    refine ops_quiet rfl rfl rfl ?_
    rw [e4]
    refine ops_quiet (v := .ptr B 39) (fs := []) rfl (by simp only [quiet, ev_set, e1]; rfl) rfl ?_
    refine ops_quiet (v := .lit (.slice (some ⟨g, off, none⟩) kids.length cap)) (fs := [.cells B 39 [.lit (.slice (some ⟨g, off, none⟩) kids.length cap)]]) rfl (by simp only [quiet, ev_set]; exact load_cell rfl hB hLx) rfl ?_
    refine ops_quiet (v := .lit (.int .i64 kids.length)) (fs := []) rfl (hlenQ h) rfl ?_
    refine ops_quiet (v := .lit (.bool (decide ((k : Int) < kids.length)))) (fs := []) rfl rfl rfl ?_
    refine ops_nil ?_
    have hd : decide ((k : Int) < kids.length) = true := decide_eq_true (by omega)
    rw [hd]
    refine runs_cond true (by simp [ev_set]) ?_
    refine runs_skip ?_
    refine runs_seq (runs_block (runs_drawn (ops := plainOps) rfl ?_))
    refine plain_round Γ cs B O lo bl k g off cap kids.length f Lv x ks _ h _ hcs hkl (by omega) hLx (hread k x.1 (by rw [List.getElem?_map, hx]; rfl)) (ih x hxm) ?_ ?_ ?_ hB hO hOl hlo hrow hbl hpl ?_
    · simp only [ev_set]; exact e1
    · simp only [ev_set]; exact e3
    · simp only [ev_set]; exact e4
    intro tm' h' Lv' bl' c hev hO' hkept hnext hbl' hrow' hpl'
    rw [show ∀ fr hp v, atEnd 1 ⟨.normal, fr, hp, v⟩ = ⟨.normal, fr, hp, v⟩ from fun _ _ _ => rfl]
    have f1 : Fr.ev ⟨tm', 37, []⟩ (.tmp 1) = .ptr B 0 := by rw [hev 1 (by decide)]; simp only [ev_set]; exact e1
    have f2 : Fr.ev ⟨tm', 37, []⟩ (.tmp 2) = Fr.ev ⟨tm, 37, []⟩ (.tmp 2) := by rw [hev 2 (by decide)]; simp only [ev_set]; rfl
    have f3 : Fr.ev ⟨tm', 37, []⟩ (.tmp 3) = .ptr O 0 := by rw [hev 3 (by decide)]; simp only [ev_set]; exact e3
    have f4 : Fr.ev ⟨tm', 37, []⟩ (.tmp 4) = .lit (.int .i64 (Int.ofNat k)) := by rw [hev 4 (by decide)]; simp only [ev_set]; exact e4
    refine runs_region ?_
    refine ops_quiet (v := .lit (.int .i64 (Int.ofNat k))) (fs := []) rfl (by simp only [quiet]; exact congrArg (fun v => some (v, [])) f4) rfl ?_
    refine ops_quiet (v := .lit (.int .i64 (Int.ofNat (k + 1)))) (fs := []) rfl (by
      have hw : IntKind.i64.wrap ((k : Int) + 1) = ((k + 1 : Nat) : Int) := wrap_nat (n := k + 1) (by omega)
      simp only [quiet, ev_set]
      show one (some (.lit (.int .i64 (IntKind.i64.wrap ((k : Int) + 1))))) = _
      rw [hw]
      rfl) rfl ?_
    refine ops_quiet (v := .lit (.int .i64 (Int.ofNat (k + 1)))) (fs := []) rfl rfl rfl ?_
    refine ops_nil ?_
    refine (ihr (k + 1) (by omega) _ h' Lv' bl' (ks ++ [(c, x.2)]) ?_ ?_ ?_ ((hkept B hBl hBO).trans hB) hO' (by omega) ?_ hrow' hbl' hpl').mono ?_
    · simp only [ev_set]; exact f1
    · simp only [ev_set]; exact f3
    · simp only [ev_set]; rfl
    · rw [List.map_append, hks, List.take_add_one, hx, List.map_append]
      rfl
    · rintro o ⟨g1, tm2, Lv2, bl2, ks2, g2, g3, g4, g5, g6, g7, g8, g9, g10⟩
      refine ⟨g1, tm2, Lv2, bl2, ks2, g2, ?_, g4, g5, g6, g7, g8, fun b hb hne => (g9 b hb hne).trans (hkept b hb hne), by omega⟩
      rw [g3]
      simp only [ev_set]
      exact f2
end Go.Proofs.YthjkejnmjbljfaaGreatDoor.undoNil
