/-
  'slices.AppendSeq' AT []int: a round appends one number; printed by the author's gen_snap.py, in the calculus of runs. | 'maps.Keys' AT map[int]int, GATHERED BY 'slices.AppendSeq': in whatever order; by the author's gen_snap.py, in the calculus of runs. | 'slices.Sorted' OF 'maps.Keys' AT map[int]int; by the author's gen_snap.py, in the calculus of runs.
-/
import Derived.Test.YtjilmneaeocimaaGreatDoorSpGD
import Derived.Test.YtjilmneaeocimaaGreatDoorSpGA
namespace Go.Proofs.YtjilmneaeocimaaGreatDoor.snap
open Go Go.Proofs.YtjilmneaeocimaaGreatDoor.Ev

noncomputable def aqRng : Code := (inBlk (seqR (seqL (seqR (bodyOf Tryz.f70)))))
noncomputable def aqAsg : Code := rngA aqRng
noncomputable def aqBody : Code := rngB aqRng
/-- The loop of 'AppendSeq'. -/
noncomputable def aqLoop (ftm : T SV) (df : Nat) : ALoop := ⟨.ready, none, 0, ftm, 13, #[7], aqAsg, aqBody, df⟩
set_option maxRecDepth 10000 in
theorem tyInts : tyU Tryz.prog 104 = some (.slice 3) := rfl
set_option maxRecDepth 10000 in
theorem infoInt : ∃ i z, Tryz.prog.info? 3 = some i ∧ i.zero = some z ∧ i.size = 1 ∧ i.bytes ≤ 1000 ∧ (SV.cells (.lit z)).length = 1 := ⟨_, _, rfl, rfl, rfl, by decide, rfl⟩
set_option maxRecDepth 10000 in
theorem nilInts (h : Hp) (p : Option Addr) (c : Nat) : lenQ Tryz.prog h 104 (.lit (.slice p 0 c)) = some (.lit (.int .i64 0), []) := rfl
def ints (zs : List Int) : List (List SV) := zs.map fun z => [iv z]
theorem append_int {Γ : Glob} {h : Hp} {lo bl nb : Nat} {v : SV} {zs : List Int} {z : Int} (hr : RowIs h lo bl 3 1 v (ints zs)) (hn : zs.length ≤ 1000000) (hlo : lo ≤ h.next) (hnb : h.objs.get nb = some (.cells [iv z] 3)) :
    ∃ v' h', appendE Tryz.prog Γ h [104, 104] v (.slice nb 0 1 1) = some (v', h') ∧ RowIs h' lo h.next 3 1 v' (ints (zs ++ [z])) ∧ h'.next = h.next + 1 ∧ ∀ b, b < h.next → (v = .lit (.slice none 0 0) ∨ b ≠ bl) → h'.objs.get b = h.objs.get b := by
  obtain ⟨i, y, hi, hz, hsz, hby, hzs⟩ := infoInt
  have := append_one (Γ := Γ) tyInts hi hz hby (by omega) (by rw [hsz]; exact hzs) (by rw [hsz]; exact hr) (fun x hx => by obtain ⟨y, _, rfl⟩ := List.mem_map.1 hx; rw [hsz]; rfl) (c := [iv z]) (nb := nb) (by rw [hsz]; rfl) rfl (by rw [ints, List.length_map]; omega) hlo hnb
  rw [hsz, show ints zs ++ [[iv z]] = ints (zs ++ [z]) by rw [ints, ints, List.map_append]; rfl] at this
  exact this
theorem store_one {P : Program} {Γ : Glob} {h : Hp} {ρ : Operand → SV} {t : TypeId} {a x : Operand} {b : Nat} {v w : SV} {e : TypeId} (hs : tySize P t = some 1) (ha : ρ a = .ptr b 0) (hx : ρ x = v) (h1 : SV.one v = true) (hb : h.objs.get b = some (.cells [w] e)) :
    effect P Γ h ρ (.store t a x) = some [(.lit undef, ⟨h.objs.set b (.cells [v] e), h.next⟩)] := by
  have hc : v.cells = [v] := by
    unfold SV.cells
    split
    · cases h1
    · cases h1
    · rfl
  refine store_eff hs ha hx (by rw [hc]; rfl) hb ?_
  rw [hc]
  simp only [splice, List.all_cons, List.all_nil, h1, Bool.and_true]
  rfl
set_option maxHeartbeats 8000000 in
set_option maxRecDepth 20000 in
/-- A round appends one. -/
theorem seq_round (Γ : Glob) (A B lo df : Nat) (ftm : T SV) (e2 : Fr.ev ⟨ftm, 13, []⟩ (.tmp 2) = .ptr A 0) (h : Hp) (z : Int) (v : SV) (bl : Nat) (zs : List Int)
    (hB : At h B (.loop (aqLoop ftm df))) (hA : At h A (.cells [v] 104)) (hrow : RowIs h lo bl 3 1 v (ints zs)) (hn : zs.length ≤ 1000000) (hlo : lo ≤ h.next) (hAl : A < lo) (hBl : B < lo) :
    Runs Tryz.prog Γ (.round B [.lit (.int .i64 z)] h) fun r => r.v = .lit (.bool true) ∧ ∃ v' bl', At r.hp B (.loop (aqLoop ftm df)) ∧ At r.hp A (.cells [v'] 104) ∧ RowIs r.hp lo bl' 3 1 v' (ints (zs ++ [z])) ∧ h.next ≤ r.hp.next ∧ ∀ b, b < lo → b ≠ A → b ≠ B → r.hp.objs.get b = h.objs.get b := by
  have hAB : A ≠ B := by
    rintro rfl
    have := hA.get.symm.trans hB.get
    cases this
  generalize hh2 : h.upd B (.loop { aqLoop ftm df with state := .busy }) = h2
  have hn2 : h2.next = h.next := by rw [← hh2]; rfl
  have hg2 : ∀ b, b ≠ B → h2.objs.get b = h.objs.get b := fun b hb => by rw [← hh2]; exact get_ne hb
  have hA2 : At h2 A (.cells [v] 104) := ⟨by rw [hn2]; exact hA.lt, (hg2 A hAB).trans hA.get⟩
  have hB2 : h2.objs.get B = some (.loop { aqLoop ftm df with state := .busy }) := by rw [← hh2]; exact get_same
  have hrow2 : RowIs h2 lo bl 3 1 v (ints zs) := hrow.kept (by omega) fun _ h => hg2 bl (by omega)
  generalize hh3 : (⟨h2.objs.set h2.next (.cells [iv z] 3), h2.next + 1⟩ : Hp) = h3
  have hn3 : h3.next = h2.next + 1 := by rw [← hh3]
  have hg3 : ∀ b, b ≠ h2.next → h3.objs.get b = h2.objs.get b := fun b hb => by rw [← hh3]; exact get_ne hb
  have hnb3 : h3.objs.get h2.next = some (.cells [iv z] 3) := by rw [← hh3]; exact get_same
  have hrow3 : RowIs h3 lo bl 3 1 v (ints zs) := hrow2.kept (by omega) fun h _ => hg3 bl (by omega)
  obtain ⟨v', h4, happ, hrow4, hn4, hg4⟩ := append_int (Γ := Γ) hrow3 hn (by omega) hnb3
  have hold4 : ∀ b, b < lo → h4.objs.get b = h3.objs.get b := fun b hb => by
    by_cases hvn : v = .lit (.slice none 0 0)
    · exact hg4 b (by omega) (.inl hvn)
    · refine hg4 b (by omega) (.inr ?_)
      rcases hrow with ⟨e, _⟩ | ⟨_, e, _⟩
      · exact absurd e hvn
      · omega
  have hA4 : h4.objs.get A = some (.cells [v] 104) := (hold4 A hAl).trans ((hg3 A (by omega)).trans hA2.get)
  have hB4 : h4.objs.get B = some (.loop { aqLoop ftm df with state := .busy }) := (hold4 B hBl).trans ((hg3 B (by omega)).trans hB2)
  have h1v : SV.one v' = true := hrow4.same.1
  have hlt4 : h.next ≤ h4.next := by omega
  have hA_ : A < h4.next := by omega
  have hB_ : B < h4.next := by omega
  have hBA : B ≠ A := fun e => hAB e.symm
  refine runs_round (fr := ⟨ftm.set 7 (.lit (.int .i64 z)), 13, []⟩) hB.get rfl rfl ?_
  refine runs_region ?_
  refine ops_q (v := .lit (.int .i64 z)) (fs := []) rfl (by simp only [quiet, ev_set] <;> rfl) rfl rfl ?_
  refine ops_nil ?_
  refine ⟨aqLoop ftm df, rfl, hB.get, rfl, ?_⟩
  show Runs Tryz.prog Γ (.code aqBody (some B) _ (h.upd B (.loop { aqLoop ftm df with state := .busy }))) _
  rw [hh2]
  refine runs_block ?_
  refine runs_region ?_
  refine ops_q (v := v) (fs := [.cells A 0 [v]]) rfl (by simp only [quiet, ev_set, e2]; exact load_cell rfl hA2.get rfl) rfl rfl ?_
  refine ops_q (v := .lit (.int .i64 z)) (fs := []) rfl rfl rfl rfl ?_
  refine ops_e (v := .slice h2.next 0 1 1) (hp' := h3) rfl rfl rfl (by rw [← hh3]; rfl) (by omega) rfl rfl ?_
  refine ops_e (v := v') (hp' := h4) rfl rfl rfl (by simp only [effect, ev_set]; exact congrArg Ev.val happ) (by show h3.next ≤ h4.next; omega) rfl rfl ?_
  refine ops_e0 (v := .lit undef) (hp' := ⟨h4.objs.set A (.cells [v'] 104), h4.next⟩) rfl rfl rfl (store_one (v := v') (w := v) rfl (by simp only [ev_set]; exact e2) (by simp only [ev_set] <;> rfl) h1v hA4) (Nat.le_refl _) rfl ?_
  refine ops_nil ?_
  rw [show ∀ fr hp v, atEnd 1 ⟨.normal, fr, hp, v⟩ = ⟨.normal, fr, hp, v⟩ from fun _ _ _ => rfl]
  have hB5 : (⟨h4.objs.set A (.cells [v'] 104), h4.next⟩ : Hp).objs.get B = some (.loop { aqLoop ftm df with state := .busy }) := (get_ne hBA).trans hB4
  refine ⟨_, roundEnd_normal hB5, rfl, v', h3.next, ⟨hB_, get_same⟩, ⟨hA_, (get_ne hAB).trans get_same⟩, ?_, hlt4, fun b hb h1 h2 => ?_⟩
  · refine hrow4.kept (Nat.le_refl _) fun _ h => ?_
    have : lo ≤ h3.next := by omega
    exact (get_ne (by omega)).trans (get_ne (by omega))
  · exact (get_ne h2).trans ((get_ne h1).trans ((hold4 b hb).trans ((hg3 b (by omega)).trans (hg2 b h2))))

end Go.Proofs.YtjilmneaeocimaaGreatDoor.snap
namespace Go.Proofs.YtjilmneaeocimaaGreatDoor.snap
open Go Go.Proofs.YtjilmneaeocimaaGreatDoor.Ev

noncomputable def kLoop : Code := (inBlk (seqR (bodyOf Tryz.f46)))
/-- The key at a place. -/
def keyAt (l : List (Int × Int)) (j : Nat) : Int := (l.getD j (0, 0)).1
theorem ent_get : ∀ (l : List (Int × Int)) (i : Nat) (e : SV × SV × Nat), e ∈ ent l i → ∃ j p, l[j]? = some p ∧ e = (iv p.1, iv p.2, i + j)
  | [], _, _, h => by cases h
  | q :: l, i, e, h => by
    rw [ent_cons] at h
    rcases List.mem_cons.1 h with rfl | h
    · exact ⟨0, q, rfl, rfl⟩
    · obtain ⟨j, p, h1, h2⟩ := ent_get l (i + 1) e h
      exact ⟨j + 1, p, by rw [List.getElem?_cons_succ]; exact h1, by rw [h2, show i + (j + 1) = i + 1 + j by omega]⟩
theorem get_ent : ∀ (l : List (Int × Int)) (i j : Nat) (p : Int × Int), l[j]? = some p → (iv p.1, iv p.2, i + j) ∈ ent l i
  | [], _, _, _, h => by simp at h
  | q :: l, i, 0, p, h => by
    obtain rfl : q = p := by simpa using h
    rw [ent_cons]
    exact List.mem_cons_self ..
  | q :: l, i, j + 1, p, h => by
    rw [ent_cons, show i + (j + 1) = i + 1 + j by omega]
    exact List.mem_cons_of_mem _ (get_ent l (i + 1) j p (by simpa using h))
theorem left_mem {l : List (Int × Int)} {js : List Nat} {e : SV × SV × Nat} (h : e ∈ Ev.leftOf (ent l 0) js) : ∃ j p, l[j]? = some p ∧ e = (iv p.1, iv p.2, j) ∧ j ∉ js := by
  obtain ⟨h1, h2⟩ := List.mem_filter.1 h
  obtain ⟨j, p, h3, rfl⟩ := ent_get l 0 e h1
  rw [Nat.zero_add] at *
  exact ⟨j, p, h3, rfl, by simpa using h2⟩
theorem left_nil {l : List (Int × Int)} {js : List Nat} : Ev.leftOf (ent l 0) js = [] ↔ ∀ j, j < l.length → j ∈ js := by
  rw [Ev.leftOf, List.filter_eq_nil_iff]
  constructor
  · intro h j hj
    have := h _ (get_ent l 0 j l[j] (List.getElem?_eq_getElem hj))
    simpa using this
  · intro h e he
    obtain ⟨j, p, h3, rfl⟩ := ent_get l 0 e he
    have := h j (List.getElem?_eq_some_iff.1 h3).1
    simpa using this
theorem stamps (l : List (Int × Int)) : (!(ent l 0).isEmpty && (ent l 0).all fun e => Nat.ble l.length e.2.2) = false := by
  cases l with
  | nil => rfl
  | cons p l =>
    rw [ent_cons]
    simp
theorem stamps2 (l : List (Int × Int)) : ((ent l 0).all fun e => Nat.blt e.2.2 l.length) = true := by
  rw [List.all_eq_true]
  intro e he
  obtain ⟨j, p, h3, rfl⟩ := ent_get l 0 e he
  have := (List.getElem?_eq_some_iff.1 h3).1
  exact Nat.ble_eq_true_of_le (by show 0 + j + 1 ≤ l.length; omega)
theorem next_done {h : Hp} {I M : Nat} {l : List (Int × Int)} {js : List Nat} (hI : h.objs.get I = some (.mapIter (some M) l.length js l.length)) (hM : h.objs.get M = some (.map (ent l 0) l.length)) (hd : Ev.leftOf (ent l 0) js = []) : nextE h (.ptr I 0) false = some [(.tuple [litBool false], h)] := by
  have hs : (!js.isEmpty && !(ent l 0).isEmpty && (ent l 0).all fun e => Nat.ble l.length e.2.2) = false := by
    rw [Bool.and_assoc, stamps, Bool.and_false]
  simp only [nextE, hI, hM, hs, cond_false, stamps2, cond_true, hd]
theorem next_more {h : Hp} {I M : Nat} {l : List (Int × Int)} {js : List Nat} (hI : h.objs.get I = some (.mapIter (some M) l.length js l.length)) (hM : h.objs.get M = some (.map (ent l 0) l.length)) (hd : Ev.leftOf (ent l 0) js ≠ []) : nextE h (.ptr I 0) false = some ((Ev.leftOf (ent l 0) js).map fun e => (.tuple [litBool true, e.1, e.2.1], h.upd I (.mapIter (some M) l.length (js ++ [e.2.2]) l.length))) := by
  have hs : (!js.isEmpty && !(ent l 0).isEmpty && (ent l 0).all fun e => Nat.ble l.length e.2.2) = false := by
    rw [Bool.and_assoc, stamps, Bool.and_false]
  simp only [nextE, hI, hM, hs, cond_false, stamps2, cond_true]
theorem find_stamp : ∀ (l : List (Int × Int)) (i j : Nat) (p : Int × Int), l[j]? = some p → (ent l i).find? (fun e => Nat.beq e.2.2 (i + j)) = some (iv p.1, iv p.2, i + j)
  | [], _, _, _, h => by simp at h
  | q :: l, i, 0, p, h => by
    obtain rfl : q = p := by simpa using h
    rw [ent_cons, List.find?_cons, beq_t (by rfl)]
    rfl
  | q :: l, i, j + 1, p, h => by
    rw [ent_cons, List.find?_cons, beq_f (show i ≠ i + (j + 1) by omega), show i + (j + 1) = i + 1 + j by omega]
    exact find_stamp l (i + 1) j p (by simpa using h)
theorem entry_at {h : Hp} {I M : Nat} {l : List (Int × Int)} {js : List Nat} {j : Nat} {p : Int × Int} (hI : h.objs.get I = some (.mapIter (some M) l.length (js ++ [j]) l.length)) (hM : h.objs.get M = some (.map (ent l 0) l.length)) (hp : l[j]? = some p) : entryE h (.ptr I 0) = some (.tuple [iv p.1, iv p.2], h) := by
  have hf := find_stamp l 0 j p hp
  rw [Nat.zero_add] at hf
  have hb : Nat.beq l.length l.length = true := beq_t rfl
  simp only [entryE, hI, List.getLast?_append, List.getLast?_singleton, Option.some_or, hM, hb, cond_true, hf]
theorem pigeon : ∀ (n : Nat) (js : List Nat), js.Nodup → (∀ j ∈ js, j < n) → js.length ≤ n ∧ (js.length = n → ∀ j, j < n → j ∈ js)
  | 0, js, _, h => by
    have : js = [] := List.eq_nil_iff_forall_not_mem.2 fun j hj => absurd (h j hj) (Nat.not_lt_zero j)
    subst this
    exact ⟨Nat.le_refl _, fun _ j hj => absurd hj (Nat.not_lt_zero j)⟩
  | n + 1, js, hn, h => by
    by_cases hm : n ∈ js
    · have hl : (js.erase n).length = js.length - 1 := List.length_erase_of_mem hm
      have hpos := List.length_pos_of_mem hm
      obtain ⟨h1, h2⟩ := pigeon n (js.erase n) (hn.erase n) fun j hj => by
        have := (hn.mem_erase_iff).1 hj
        have := h j this.2
        omega
      refine ⟨by omega, fun he j hj => ?_⟩
      by_cases e : j = n
      · rw [e]; exact hm
      · exact List.mem_of_mem_erase (h2 (by omega) j (by omega))
    · obtain ⟨h1, h2⟩ := pigeon n js hn fun j hj => by
        have := h j hj
        have : j ≠ n := fun e => hm (by rw [← e]; exact hj)
        omega
      exact ⟨by omega, fun he => by omega⟩
theorem perm_range {n : Nat} {js : List Nat} (hn : js.Nodup) (h : ∀ j, j ∈ js ↔ j < n) : js.Perm (List.range n) :=
  (List.perm_ext_iff_of_nodup hn List.nodup_range).2 fun j => by rw [h, List.mem_range]
theorem left_has {l : List (Int × Int)} {js : List Nat} (hn : js.Nodup) (hl : js.length < l.length) (hj : ∀ j ∈ js, j < l.length) : Ev.leftOf (ent l 0) js ≠ [] := by
  intro h
  have hp := perm_range hn fun j => ⟨hj j, left_nil.1 h j⟩
  have := hp.length_eq
  rw [List.length_range] at this
  omega
theorem left_none {l : List (Int × Int)} {js : List Nat} (hn : js.Nodup) (hl : js.length = l.length) (hj : ∀ j ∈ js, j < l.length) : Ev.leftOf (ent l 0) js = [] :=
  left_nil.2 ((pigeon l.length js hn hj).2 hl)
theorem perm_keys {l : List (Int × Int)} {js : List Nat} (hn : js.Nodup) (hl : js.length = l.length) (hj : ∀ j ∈ js, j < l.length) : (js.map (keyAt l)).Perm (keys l) := by
  have hs : js.Perm (List.range l.length) := perm_range hn fun j => ⟨hj j, (pigeon l.length js hn hj).2 hl j⟩
  have : (List.range l.length).map (keyAt l) = keys l := by
    apply List.ext_getElem
    · simp [keys]
    · intro i h1 h2
      simp [keys] at h2
      simp [keyAt, keys, List.getD_eq_getElem?_getD, List.getElem?_eq_getElem h2]
  rw [← this]
  exact hs.map _
set_option maxHeartbeats 8000000 in
set_option maxRecDepth 20000 in
theorem keys_loop (Γ : Glob) (M A B I lo df : Nat) (l : List (Int × Int)) (hl : l.length ≤ 1000000) (ftm : T SV) (e2 : Fr.ev ⟨ftm, 13, []⟩ (.tmp 2) = .ptr A 0) (hAl : A < lo) (hBl : B < lo) (hIl : I < lo) (hMl : M < lo) (hAI : A ≠ I) (hBI : B ≠ I) (hMA : M ≠ A) (hMB : M ≠ B) (hMI : M ≠ I) (_hAB : A ≠ B) : ∀ (rem : Nat) (js : List Nat), js.length + rem = l.length → js.Nodup → (∀ j ∈ js, j < l.length) → ∀ (tm : T SV) (h : Hp) (v : SV) (bl : Nat),
    Fr.ev ⟨tm, 14, []⟩ (.tmp 0) = .yield B → Fr.ev ⟨tm, 14, []⟩ (.tmp 5) = .ptr I 0 → At h M (.map (ent l 0) l.length) → At h I (.mapIter (some M) l.length js l.length) → At h B (.loop (aqLoop ftm df)) → At h A (.cells [v] 104) → RowIs h lo bl 3 1 v (ints (js.map (keyAt l))) → lo ≤ h.next →
    Runs Tryz.prog Γ (.code kLoop none ⟨tm, 14, []⟩ h) fun o => ∃ tm' h' v0, o = ⟨.exit 0, ⟨tm', 14, []⟩, h', v0⟩ ∧ ∃ zs v' bl', zs.Perm (keys l) ∧ At h' B (.loop (aqLoop ftm df)) ∧ At h' A (.cells [v'] 104) ∧ RowIs h' lo bl' 3 1 v' (ints zs) ∧ h.next ≤ h'.next ∧ ∀ b, b < lo → b ≠ A → b ≠ B → b ≠ I → h'.objs.get b = h.objs.get b := by
  intro rem
  induction rem with
  | zero =>
    intro js hjl hn hj tm h v bl e0 e5 hM hI hB hA hrow hlo
    have hd := left_none hn (by omega) hj
    refine runs_loop ?_
    refine runs_seq (runs_region ?_)
    refine ops_e (v := .tuple [.lit (.bool false)]) (hp' := h) rfl rfl rfl (by simp only [effect, e5]; exact next_done hI.get hM.get hd) (Nat.le_refl _) rfl rfl ?_
    refine ops_q (v := .lit (.bool false)) (fs := []) rfl (by simp only [quiet, ev_set] <;> rfl) rfl rfl ?_
    refine ops_nil ?_
    refine runs_seq (runs_cond false rfl (runs_exit ?_))
    exact ⟨_, _, _, rfl, js.map (keyAt l), v, bl, perm_keys hn (by omega) hj, hB, hA, hrow, Nat.le_refl _, fun _ _ _ _ _ => rfl⟩
  | succ rem ih =>
    intro js hjl hn hj tm h v bl e0 e5 hM hI hB hA hrow hlo
    have hd := left_has hn (by omega) hj
    refine runs_loop ?_
    refine runs_seq (runs_region ?_)
    refine ops_many rfl rfl rfl (by simp only [effect, e5]; exact next_more hI.get hM.get hd) (fun r hr => by obtain ⟨e, _, rfl⟩ := List.mem_map.1 hr; exact Nat.le_refl _) rfl rfl ?_
    intro r hr
    obtain ⟨e, he, rfl⟩ := List.mem_map.1 hr
    obtain ⟨j, p, hp, rfl, hjn⟩ := left_mem he
    have hjlt := (List.getElem?_eq_some_iff.1 hp).1
    generalize hh1 : h.upd I (.mapIter (some M) l.length (js ++ [j]) l.length) = h1
    have hn1 : h1.next = h.next := by rw [← hh1]; rfl
    have hg1 : ∀ b, b ≠ I → h1.objs.get b = h.objs.get b := fun b hb => by rw [← hh1]; exact get_ne hb
    have hI1 : At h1 I (.mapIter (some M) l.length (js ++ [j]) l.length) := ⟨by rw [hn1]; exact hI.lt, by rw [← hh1]; exact get_same⟩
    have hM1 : At h1 M (.map (ent l 0) l.length) := ⟨by rw [hn1]; exact hM.lt, (hg1 M hMI).trans hM.get⟩
    have hB1 : At h1 B (.loop (aqLoop ftm df)) := ⟨by rw [hn1]; exact hB.lt, (hg1 B hBI).trans hB.get⟩
    have hA1 : At h1 A (.cells [v] 104) := ⟨by rw [hn1]; exact hA.lt, (hg1 A hAI).trans hA.get⟩
    have hrow1 : RowIs h1 lo bl 3 1 v (ints (js.map (keyAt l))) := hrow.kept (by omega) fun _ h => hg1 bl (by omega)
    have hkey : keyAt l j = p.1 := by simp [keyAt, List.getD_eq_getElem?_getD, hp]
    have hround := seq_round Γ A B lo df ftm e2 h1 p.1 v bl (js.map (keyAt l)) hB1 hA1 hrow1 (by rw [List.length_map]; omega) (by omega) hAl hBl
    have hmore : js.map (keyAt l) ++ [p.1] = (js ++ [j]).map (keyAt l) := by rw [List.map_append, ← hkey]; rfl
    rw [hmore] at hround
    have hI2 := hI1.get
    have hM2 := hM1.get
    refine ops_q (v := .lit (.bool true)) (fs := []) rfl (by simp only [quiet, ev_set] <;> rfl) rfl rfl ?_
    refine ops_nil ?_
    refine runs_seq (runs_cond true rfl (runs_skip ?_))
    refine runs_block ?_
    refine runs_seq (runs_region ?_)
    refine ops_e (v := .tuple [.lit (.int .i64 p.1), .lit (.int .i64 p.2)]) (hp' := h1) rfl rfl rfl (by simp only [effect, ev_set, e5]; exact congrArg Ev.val (entry_at hI2 hM2 hp)) (Nat.le_refl _) rfl rfl ?_
    refine ops_q (v := .lit (.int .i64 p.1)) (fs := []) rfl (by simp only [quiet, ev_set] <;> rfl) rfl rfl ?_
    refine ops_q (v := .lit (.int .i64 p.1)) (fs := []) rfl (by simp only [quiet, ev_set] <;> rfl) rfl rfl ?_
    refine ops_nil ?_
    refine runs_seq (runs_region ?_)
    refine ops_q (v := .yield B) (fs := []) rfl (by simp only [quiet, ev_set, e0] <;> rfl) rfl rfl ?_
    refine ops_q (v := .lit (.int .i64 p.1)) (fs := []) rfl (by simp only [quiet, ev_set] <;> rfl) rfl rfl ?_
    refine ops_yield (b := B) (args := [.lit (.int .i64 p.1)]) rfl rfl rfl rfl rfl ?_
    refine hround.mono ?_
    rintro ⟨ex, fr, h2, v2⟩ ⟨hv2, v', bl', hB2, hA2, hrow2, hn2, hold2⟩
    have hv2 : v2 = .lit (.bool true) := hv2
    subst hv2
    have hn2 : h1.next ≤ h2.next := hn2
    have hB2 : At h2 B (.loop (aqLoop ftm df)) := hB2
    have hA2 : At h2 A (.cells [v'] 104) := hA2
    have hrow2 : RowIs h2 lo bl' 3 1 v' (ints ((js ++ [j]).map (keyAt l))) := hrow2
    have hold2 : ∀ b, b < lo → b ≠ A → b ≠ B → h2.objs.get b = h1.objs.get b := hold2
    have hI3 : At h2 I (.mapIter (some M) l.length (js ++ [j]) l.length) := ⟨Nat.lt_of_lt_of_le hI1.lt hn2, (hold2 I hIl (Ne.symm hAI) (Ne.symm hBI)).trans hI1.get⟩
    have hM3 : At h2 M (.map (ent l 0) l.length) := ⟨Nat.lt_of_lt_of_le hM1.lt hn2, (hold2 M hMl hMA hMB).trans hM1.get⟩
    refine ops_q (v := .lit (.bool false)) (fs := []) rfl (by simp only [quiet, ev_set] <;> rfl) rfl rfl ?_
    refine ops_nil ?_
    refine runs_cond false rfl (runs_skip ?_)
    rw [show ∀ fr hp v, atEnd 1 ⟨.normal, fr, hp, v⟩ = ⟨.normal, fr, hp, v⟩ from fun _ _ _ => rfl]
    have hnd : (js ++ [j]).Nodup := by
      rw [List.nodup_append]
      exact ⟨hn, by simp, fun a ha b hb => by rintro rfl; rw [List.mem_singleton.1 hb] at ha; exact hjn ha⟩
    refine (ih (js ++ [j]) (by rw [List.length_append]; simp; omega) hnd (fun k hk => ?_) _ h2 v' bl' ?_ ?_ hM3 hI3 hB2 hA2 hrow2 (by omega)).mono ?_
    · rcases List.mem_append.1 hk with hk | hk
      · exact hj k hk
      · rw [List.mem_singleton.1 hk]; exact hjlt
    · simp only [ev_set]; exact e0
    · simp only [ev_set]; exact e5
    · rintro o ⟨tm', h', v0, rfl, zs, v3, bl3, q1, q2, q3, q4, q5, q6⟩
      exact ⟨tm', h', v0, rfl, zs, v3, bl3, q1, q2, q3, q4, by omega, fun b hb h1 h2 h3 => (q6 b hb h1 h2 h3).trans ((hold2 b hb h1 h2).trans (hg1 b h3))⟩

set_option maxHeartbeats 8000000 in
set_option maxRecDepth 20000 in
theorem keys_runs (Γ : Glob) (M A B C df : Nat) (l : List (Int × Int)) (hl : l.length ≤ 1000000) (ftm : T SV) (e2 : Fr.ev ⟨ftm, 13, []⟩ (.tmp 2) = .ptr A 0) (h : Hp) (_v : SV) (hC : At h C (.cells [.map M] 49)) (hM : At h M (.map (ent l 0) l.length)) (hB : At h B (.loop (aqLoop ftm df))) (hA : At h A (.cells [.lit (.slice none 0 0)] 104)) :
    Runs Tryz.prog Γ (.call 46 [.yield B, .ptr C 0] h) fun r => ∃ zs v' bl', zs.Perm (keys l) ∧ At r.hp B (.loop (aqLoop ftm df)) ∧ At r.hp A (.cells [v'] 104) ∧ RowIs r.hp h.next bl' 3 1 v' (ints zs) ∧ h.next ≤ r.hp.next ∧ ∀ b, b < h.next → b ≠ A → b ≠ B → r.hp.objs.get b = h.objs.get b := by
  have hrange : rangeE Tryz.prog h 49 (.map M) = some (.ptr h.next 0, ⟨h.objs.set h.next (.mapIter (some M) l.length [] l.length), h.next + 1⟩) := by
    simp only [rangeE, tyMapI, hM.get]
    rfl
  generalize hh1 : (⟨h.objs.set h.next (.mapIter (some M) l.length [] l.length), h.next + 1⟩ : Hp) = h1 at hrange
  have hn1 : h1.next = h.next + 1 := by rw [← hh1]
  have hg1 : ∀ b, b ≠ h.next → h1.objs.get b = h.objs.get b := fun b hb => by rw [← hh1]; exact get_ne hb
  have hI1 : At h1 h.next (.mapIter (some M) l.length [] l.length) := ⟨by omega, by rw [← hh1]; exact get_same⟩
  have k1 : Kept h.next h h1 := ⟨by omega, fun b hb => hg1 b (by omega)⟩
  have hMA : M ≠ A := fun e => (hA.ne hM) e.symm
  have hMB : M ≠ B := by
    rintro rfl
    have := hM.get.symm.trans hB.get
    cases this
  have hAB : A ≠ B := by
    rintro rfl
    have := hA.get.symm.trans hB.get
    cases this
  have a1 := hA.lt
  have a2 := hB.lt
  have a3 := hM.lt
  refine runs_call Tryz.func46 rfl ?_
  refine runs_seq ?_
  refine runs_region ?_
  refine ops_q (v := .map M) (fs := [.cells C 0 [.map M]]) rfl (by simp only [quiet]; exact load_cell rfl hC.get rfl) rfl rfl ?_
  refine ops_e (v := .ptr h.next 0) (hp' := h1) rfl rfl rfl (congrArg Ev.val hrange) (by omega) rfl rfl ?_
  refine ops_nil ?_
  refine runs_block ((keys_loop Γ M A B h.next (h.next + 1) df l hl ftm e2 (by omega) (by omega) (by omega) (by omega) (by omega) (by omega) hMA hMB (by omega) hAB l.length [] (Nat.zero_add _) List.nodup_nil (fun _ h => by cases h) _ h1 (.lit (.slice none 0 0)) 0 rfl rfl (hM.kept k1) hI1 (hB.kept k1) (hA.kept k1) (.inl ⟨rfl, rfl⟩) (by omega)).mono ?_)
  rintro o ⟨tm', h', v0, rfl, zs, v3, bl3, q1, q2, q3, q4, q5, q6⟩
  exact ⟨_, rfl, zs, v3, bl3, q1, q2, q3, by
    rcases q4 with q4 | ⟨r1, r2, r3, r4⟩
    · exact .inl q4
    · exact .inr ⟨r1, by omega, r3, r4⟩, by show h.next ≤ h'.next; omega, fun b hb h1 h2 => (q6 b (by omega) h1 h2 (by omega)).trans (hg1 b (by omega))⟩

set_option maxHeartbeats 8000000 in
set_option maxRecDepth 20000 in
theorem appendSeq_runs (Γ : Glob) (M C : Nat) (l : List (Int × Int)) (hl : l.length ≤ 1000000) (h : Hp) (hC : At h C (.cells [.map M] 49)) (hM : At h M (.map (ent l 0) l.length)) :
    Runs Tryz.prog Γ (.call 70 [.lit (.slice none 0 0), .func (.func 46) [] [.ptr C 0]] h) fun r => ∃ zs bl', zs.Perm (keys l) ∧ RowIs r.hp h.next bl' 3 1 r.v (ints zs) ∧ Kept h.next h r.hp := by
  refine runs_call Tryz.func70 rfl ?_
  refine runs_seq ?_
  refine runs_region ?_
  refine ops_box (cs := [.lit (.slice none 0 0)]) rfl rfl rfl rfl rfl (fun H1 g1 k1 n1 => ?_)
  have hC_1 := hC.kept k1
  have hM_1 := hM.kept k1
  refine ops_q (v := .lit (.slice none 0 0)) (fs := []) rfl rfl rfl rfl ?_
  refine ops_nil ?_
  refine runs_seq (runs_seq ?_)
  refine runs_region ?_
  refine ops_q (v := .func (.func 46) [] [.ptr C 0]) (fs := []) rfl rfl rfl rfl ?_
  refine ops_nil ?_
  refine runs_block (runs_range (f := 46) (args := [.yield (H1.next + 1), .ptr C 0]) rfl ?_)
  generalize hftm : ((((T.ofList [.lit (.slice none 0 0), .func (.func 46) [] [.ptr C 0]] 0 .leaf).set 2 (.ptr h.next 0)).set 4 (.lit (.slice none 0 0))).set 6 (.func (.func 46) [] [.ptr C 0]) : T SV) = ftm
  have e2 : Fr.ev ⟨ftm, 13, []⟩ (.tmp 2) = .ptr h.next 0 := by rw [← hftm]; rfl
  generalize hh2 : (⟨(H1.objs.set H1.next (.deferred true)).set (H1.next + 1) (.loop (aqLoop ftm H1.next)), H1.next + 2⟩ : Hp) = h2
  have hn2 : h2.next = H1.next + 2 := by rw [← hh2]
  have hg2 : ∀ b, b < H1.next → h2.objs.get b = H1.objs.get b := fun b hb => by rw [← hh2]; exact (get_ne (by omega)).trans (get_ne (by omega))
  have k2 : Kept H1.next H1 h2 := ⟨by omega, hg2⟩
  have hB2 : At h2 (H1.next + 1) (.loop (aqLoop ftm H1.next)) := ⟨by omega, by rw [← hh2]; exact get_same⟩
  have hD2 : h2.objs.get H1.next = some (.deferred true) := by rw [← hh2]; exact (get_ne (by omega)).trans get_same
  have hA2 := g1.kept k2
  have b1 := g1.lt
  show Runs Tryz.prog Γ (.call 46 [.yield (H1.next + 1), .ptr C 0] ⟨(H1.objs.set H1.next (.deferred true)).set (H1.next + 1) (.loop (aqLoop ftm H1.next)), H1.next + 2⟩) _
  rw [hh2]
  refine (keys_runs Γ M h.next (H1.next + 1) C H1.next l hl ftm e2 h2 (.lit undef) (hC_1.kept k2) (hM_1.kept k2) hB2 hA2).mono ?_
  rintro ⟨ex, fr, h3, v3⟩ ⟨zs, v', bl', q1, q2, q3, q4, q5, q6⟩
  have q2 : At h3 (H1.next + 1) (.loop (aqLoop ftm H1.next)) := q2
  have hA3 : At h3 h.next (.cells [v'] 104) := q3
  have q4 : RowIs h3 h2.next bl' 3 1 v' (ints zs) := q4
  have q5 : h2.next ≤ h3.next := q5
  have q6 : ∀ b, b < h2.next → b ≠ h.next → b ≠ H1.next + 1 → h3.objs.get b = h2.objs.get b := q6
  refine ⟨⟨.normal, ⟨ftm, 13, [H1.next]⟩, h3.upd (H1.next + 1) (.loop { aqLoop ftm H1.next with state := .exhausted }), .lit undef⟩, ?_, ?_⟩
  · simp only [loopEnd, q2.get]
    rfl
  generalize hh4 : h3.upd (H1.next + 1) (.loop { aqLoop ftm H1.next with state := .exhausted }) = h4
  have hn4 : h4.next = h3.next := by rw [← hh4]; rfl
  have hg4 : ∀ b, b ≠ H1.next + 1 → h4.objs.get b = h3.objs.get b := fun b hb => by rw [← hh4]; exact get_ne hb
  have hA4 : At h4 h.next (.cells [v'] 104) := ⟨by rw [hn4]; exact hA3.lt, (hg4 h.next (by omega)).trans hA3.get⟩
  have hD4 : h4.objs.get H1.next = some (.deferred true) := (hg4 _ (by omega)).trans ((q6 _ (by omega) (by omega) (by omega)).trans hD2)
  rw [show ∀ fr hp v, atEnd 0 ⟨.normal, fr, hp, v⟩ = ⟨.normal, fr, hp, v⟩ from fun _ _ _ => rfl]
  have e2m : Fr.ev ⟨ftm, 13, [H1.next]⟩ (.tmp 2) = .ptr h.next 0 := e2
  refine runs_seq ?_
  refine runs_region ?_
  refine ops_q (v := v') (fs := [.cells h.next 0 [v']]) rfl (by simp only [quiet, e2m]; exact load_cell rfl hA4.get rfl) rfl rfl ?_
  refine ops_q (v := v') (fs := []) rfl rfl rfl rfl ?_
  refine ops_nil ?_
  refine runs_ret ?_
  refine ⟨_, leave_marked (t := 4) rfl hD4 (v := v') (by simp only [ev_set] <;> rfl), zs, bl', q1, ?_, ?_, ?_⟩
  · refine RowIs.less (lo := h2.next) (RowIs.kept (h' := h4.upd H1.next (.deferred false)) q4 (by show h3.next ≤ h4.next; omega) fun a1 a2 => ?_) (by have := k1.next; omega)
    exact (get_ne (by omega)).trans (hg4 bl' (by omega))
  · exact (by show h.next ≤ h4.next; omega)
  · exact fun b hb => (get_ne (by omega)).trans ((hg4 b (by omega)).trans ((q6 b (by omega) (by omega) (by omega)).trans ((hg2 b (by omega)).trans (k1.old b hb))))

end Go.Proofs.YtjilmneaeocimaaGreatDoor.snap
namespace Go.Proofs.YtjilmneaeocimaaGreatDoor.snap
open Go Go.Proofs.YtjilmneaeocimaaGreatDoor.Ev

set_option maxHeartbeats 8000000 in
set_option maxRecDepth 20000 in
theorem collect_runs (Γ : Glob) (M C : Nat) (l : List (Int × Int)) (hl : l.length ≤ 1000000) (h : Hp) (hC : At h C (.cells [.map M] 49)) (hM : At h M (.map (ent l 0) l.length)) :
    Runs Tryz.prog Γ (.call 44 [.func (.func 46) [] [.ptr C 0]] h) fun r => ∃ zs bl', zs.Perm (keys l) ∧ RowIs r.hp h.next bl' 3 1 r.v (ints zs) ∧ Kept h.next h r.hp := by
  refine runs_call Tryz.func44 rfl ?_
  refine runs_seq ?_
  refine runs_region ?_
  refine ops_q (v := .lit (.slice none 0 0)) (fs := []) rfl rfl rfl rfl ?_
  refine ops_nil ?_
  refine runs_seq ?_
  refine runs_region ?_
  refine ops_q (v := .func (.func 46) [] [.ptr C 0]) (fs := []) rfl rfl rfl rfl ?_
  refine ops_c (f := 70) (args := [.lit (.slice none 0 0), .func (.func 46) [] [.ptr C 0]]) rfl rfl rfl (clone_body Tryz.func70 rfl) rfl rfl ?_
  refine (appendSeq_runs Γ M C l hl h hC hM).mono ?_
  rintro ⟨ex, fr, H1, v⟩ ⟨zs, bl, hz, hrow, k1⟩
  have k1 : Kept h.next h H1 := k1
  have hrow : RowIs H1 h.next bl 3 1 v (ints zs) := hrow
  have hC_1 := hC.kept k1
  have hM_1 := hM.kept k1
  refine ops_q (v := v) (fs := []) rfl rfl rfl rfl ?_
  refine ops_nil ?_
  refine runs_ret ?_
  exact ⟨_, rfl, zs, bl, hz, hrow, k1⟩

theorem told_sort {Γ : Glob} {hp h1 : Hp} {v : SV} {Φ : Out → Prop} (hm : snap.sortW [v] hp = some [⟨.ret, ⟨.leaf, 0, []⟩, h1, .lit (.tuple #[])⟩]) (h : ∀ fr, Φ ⟨.ret, fr, h1, .lit (.tuple #[])⟩) : Runs Tryz.prog Γ (.call 45 [v] hp) Φ :=
  runs_told (show theMem 45 [v] hp = _ from hm) fun o ho => by
    rw [List.mem_singleton.1 ho]
    exact h _
theorem ints_flat (zs : List Int) : (ints zs).flatten = zs.map iv := by
  induction zs with
  | nil => rfl
  | cons z zs ih => show [iv z] ++ (ints zs).flatten = _; rw [ih]; rfl
theorem sortCall {h h1 : Hp} {bl : Nat} {v : SV} {l r : List (Int × Int)} {zs : List Int} (hl : l.length ≤ 1000000) (hz : zs.Perm (keys l)) (hrow : RowIs h1 h.next bl 3 1 v (ints zs)) (hlr : Holds l r) (asc : Asc r) :
    ∃ H9 bl9, snap.sortW [v] h1 = some [⟨.ret, ⟨.leaf, 0, []⟩, H9, .lit (.tuple #[])⟩] ∧ RowIs H9 h.next bl9 3 1 v (ints (keys r)) ∧ Kept h.next h1 H9 := by
  have hs := sorted_keys asc (hz.trans (hlr.keys asc))
  have hlen : zs.length ≤ 1000000 := by rw [hz.length_eq, keys, List.length_map]; exact hl
  rcases hrow with ⟨rfl, hnil⟩ | ⟨rfl, r2, r3, r4⟩
  · obtain rfl : zs = [] := List.map_eq_nil_iff.1 hnil
    have hk : keys r = [] := (hz.trans (hlr.keys asc)).nil_eq.symm
    exact ⟨h1, bl, rfl, .inl ⟨rfl, by rw [hk]; rfl⟩, Kept.refl _ _⟩
  · have hln : (ints zs).length = zs.length := by rw [ints, List.length_map]
    have hln2 : (ints (keys r)).length = zs.length := by rw [ints, List.length_map, (hz.trans (hlr.keys asc)).length_eq]
    rw [ints_flat, hln] at r4
    rw [hln]
    refine ⟨_, bl, sortW_row hlen r4, .inr ⟨by rw [hln2], r2, r3, ?_⟩, ⟨Nat.le_refl _, fun b hb => get_ne (by omega)⟩⟩
    rw [hs, ints_flat, hln2]
    exact get_same
set_option maxHeartbeats 8000000 in
set_option maxRecDepth 20000 in
theorem sorted_runs (Γ : Glob) (M C : Nat) (l r : List (Int × Int)) (hl : l.length ≤ 1000000) (hlr : Holds l r) (asc : Asc r) (h : Hp) (hC : At h C (.cells [.map M] 49)) (hM : At h M (.map (ent l 0) l.length)) :
    Runs Tryz.prog Γ (.call 32 [.func (.func 46) [] [.ptr C 0]] h) fun o => ∃ bl', RowIs o.hp h.next bl' 3 1 o.v (ints (keys r)) ∧ Kept h.next h o.hp := by
  refine runs_call Tryz.func32 rfl ?_
  refine runs_seq ?_
  refine runs_region ?_
  refine ops_q (v := .lit (.slice none 0 0)) (fs := []) rfl rfl rfl rfl ?_
  refine ops_nil ?_
  refine runs_seq ?_
  refine runs_region ?_
  refine ops_q (v := .func (.func 46) [] [.ptr C 0]) (fs := []) rfl rfl rfl rfl ?_
  refine ops_c (f := 44) (args := [.func (.func 46) [] [.ptr C 0]]) rfl rfl rfl (clone_body Tryz.func44 rfl) rfl rfl ?_
  refine (collect_runs Γ M C l hl h hC hM).mono ?_
  rintro ⟨ex, fr, H1, v⟩ ⟨zs, bl, hz, hrow, k1⟩
  have k1 : Kept h.next h H1 := k1
  have hrow : RowIs H1 h.next bl 3 1 v (ints zs) := hrow
  obtain ⟨H9, bl9, hsort, hrow9, k9⟩ := sortCall hl hz hrow hlr asc
  have hC_1 := hC.kept k1
  have hM_1 := hM.kept k1
  refine ops_q (v := v) (fs := []) rfl rfl rfl rfl ?_
  refine ops_nil ?_
  refine runs_seq ?_
  refine runs_region ?_
  refine ops_q (v := v) (fs := []) rfl rfl rfl rfl ?_
  refine ops_c (f := 45) (args := [v]) rfl rfl rfl (clone_body Tryz.func45 rfl) rfl rfl (told_sort hsort fun fr => ?_)
  refine ops_nil ?_
  refine runs_seq ?_
  refine runs_region ?_
  refine ops_q (v := v) (fs := []) rfl rfl rfl rfl ?_
  refine ops_q (v := v) (fs := []) rfl rfl rfl rfl ?_
  refine ops_nil ?_
  refine runs_ret ?_
  exact ⟨_, rfl, bl9, hrow9, k1.trans k9⟩

end Go.Proofs.YtjilmneaeocimaaGreatDoor.snap
