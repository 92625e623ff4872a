/-
  THE IDS OF A NEW AXIS, and what 'sheet.fresh' makes of a number, up to its call of 'axis.New'; by the author of this claim, in the calculus of runs. | MAPS BY IDS, and a round of 'axis.New'; by the author of this claim, in the calculus of runs. | THE LOOP OF 'axis.New'; by the author of this claim, in the calculus of runs. | WHAT 'axis.New' AND 'sheet.fresh' COME TO; by the author of this claim, in the calculus of runs.
-/
import Derived.Test.YtpfagdkpolhopaaGreatDoorEvGF
import Derived.Test.YtpfagdkpolhopaaGreatDoorProg
import Derived.KernelRfl
namespace Go.Proofs.YtpfagdkpolhopaaGreatDoor.sheetNew
open Go Go.Proofs.YtpfagdkpolhopaaGreatDoor.Ev

def seqL : Code → Code
  | .seq a _ => a
  | c => c
def seqR : Code → Code
  | .seq _ b => b
  | c => c
def inBlk : Code → Code
  | .block _ c => c
  | c => c
def inLoop : Code → Code
  | .loop c => c
  | c => c
def opsOf : Code → Array Oper
  | .region _ ops _ => ops
  | _ => #[]
def bodyOf (f : Func) : Code := match f.body with
  | some c => c
  | none => .skip

/-- The id {0, k + 1}. -/
def idC (k : Nat) : List SV := [.lit (.int .i64 0), .lit (.int .i64 (Int.ofNat (k + 1)))]
def idsL (n : Nat) : List (List SV) := (List.range n).map idC
theorem idsL_succ (n : Nat) : idsL (n + 1) = idsL n ++ [idC n] := by simp [idsL, List.range_succ]
theorem idsL_len (n : Nat) : (idsL n).length = n := by simp [idsL]
theorem idsL_at {n k : Nat} (h : k < n) : (idsL n)[k]? = some (idC k) := by simp [idsL, h]
theorem idsL_mem {n : Nat} {x : List SV} (h : x ∈ idsL n) : x.length = 2 := by
  obtain ⟨k, _, rfl⟩ := List.mem_map.1 h
  rfl

theorem wrap_nat {n : Nat} (hn : n ≤ 4000000) : IntKind.i64.wrap (n : Int) = (n : Int) := by
  have h1 : (n : Int) % 2 ^ 64 = (n : Int) := Int.emod_eq_of_lt (by omega) (by omega)
  have h2 : ¬ ((n : Int) ≥ 2 ^ (64 - 1)) := by omega
  simp only [IntKind.wrap, IntKind.signed, IntKind.bits, h1, h2, decide_false, Bool.and_false, Bool.false_eq_true, if_false]
theorem wrap_succ {k : Nat} (hk : k ≤ 1000000) : IntKind.i64.wrap ((k : Int) + 1) = ((k + 1 : Nat) : Int) := wrap_nat (n := k + 1) (by omega)

set_option maxRecDepth 10000 in
theorem infoId : ∃ i z, Tryz.prog.info? 43 = some i ∧ i.zero = some z ∧ i.size = 2 ∧ i.bytes ≤ 1000 ∧ (SV.cells (.lit z)).length = 2 := ⟨_, _, rfl, rfl, rfl, by decide, rfl⟩
set_option maxRecDepth 10000 in
theorem infoBool : ∃ i z, Tryz.prog.info? 4 = some i ∧ i.zero = some z ∧ i.size = 1 ∧ i.bytes ≤ 1000 ∧ (SV.cells (.lit z)).length = 1 := ⟨_, _, rfl, rfl, rfl, by decide, rfl⟩
set_option maxRecDepth 10000 in
theorem tyIds : tyU Tryz.prog 27 = some (.slice 43) := rfl
set_option maxRecDepth 10000 in
theorem tyBools : tyU Tryz.prog 81 = some (.slice 4) := rfl
set_option maxRecDepth 10000 in
theorem nilIds (h : Hp) : lenQ Tryz.prog h 27 (.lit (.slice none 0 0)) = some (.lit (.int .i64 0), []) := rfl
set_option maxRecDepth 10000 in
theorem nilBools (h : Hp) : lenQ Tryz.prog h 81 (.lit (.slice none 0 0)) = some (.lit (.int .i64 0), []) := rfl

theorem append_id {Γ : Glob} {h : Hp} {lo bl nb k : Nat} {v : SV} (hr : RowIs h lo bl 43 2 v (idsL k)) (hn : k ≤ 1000000) (hlo : lo ≤ h.next) (hnb : h.objs.get nb = some (.cells (idC k) 43)) :
    ∃ v' h', appendE Tryz.prog Γ h [27, 27] v (.slice nb 0 1 1) = some (v', h') ∧ RowIs h' lo h.next 43 2 v' (idsL (k + 1)) ∧ h'.next = h.next + 1 ∧ ∀ b, b < h.next → (v = .lit (.slice none 0 0) ∨ b ≠ bl) → h'.objs.get b = h.objs.get b := by
  obtain ⟨i, z, hi, hz, hsz, hby, hzs⟩ := infoId
  have := append_one (Γ := Γ) tyIds hi hz hby (by omega) (by rw [hsz]; exact hzs) (by rw [hsz]; exact hr) (fun x hx => by rw [hsz]; exact idsL_mem hx) (c := idC k) (nb := nb) (by rw [hsz]; rfl) rfl (by rw [idsL_len]; omega) hlo hnb
  rw [hsz, ← idsL_succ] at this
  exact this

noncomputable def freshLoop : Code := inBlk (seqR (seqL (seqR (seqR (bodyOf Tryz.f19)))))

set_option maxHeartbeats 4000000 in
set_option maxRecDepth 20000 in
theorem fresh_loop (Γ : Glob) (lo n : Nat) (hn : n ≤ 1000) : ∀ (rem k : Nat), k + rem = n → ∀ (tm : T SV) (h : Hp) (v : SV) (bl : Nat), Fr.ev ⟨tm, 20, []⟩ (.tmp 3) = v → Fr.ev ⟨tm, 20, []⟩ (.tmp 7) = .lit (.int .i64 (Int.ofNat n)) → Fr.ev ⟨tm, 20, []⟩ (.tmp 8) = .lit (.int .i64 (Int.ofNat k)) →
    RowIs h lo bl 43 2 v (idsL k) → lo ≤ bl → lo ≤ h.next →
    Runs Tryz.prog Γ (.code freshLoop none ⟨tm, 20, []⟩ h) fun o => o.exit = .exit 0 ∧ ∃ (tm' : T SV) (bl' : Nat), o.fr = ⟨tm', 20, []⟩ ∧ RowIs o.hp lo bl' 43 2 (Fr.ev ⟨tm', 20, []⟩ (.tmp 3)) (idsL n) ∧ lo ≤ bl' ∧ Kept lo h o.hp := by
  intro rem
  induction rem with
  | zero =>
    intro k hkr tm h v bl e3 e7 e8 hrow hbl hlo
    obtain rfl : k = n := by omega
    refine runs_loop ?_
    refine runs_seq (runs_region ?_)
    refine ops_quiet (v := .lit (.bool false)) (fs := []) rfl (by
      simp only [quiet, e7, e8]
      show one (some (.lit (.bool (decide ((k : Int) < k))))) = _
      rw [decide_eq_false (by omega)]
      rfl) rfl ?_
    refine ops_nil ?_
    refine runs_seq (runs_cond false (by simp [ev_set]) (runs_exit ?_))
    refine ⟨rfl, _, bl, rfl, ?_, hbl, Kept.refl _ _⟩
    simp only [ev_set, e3]
    exact hrow
  | succ rem ihr =>
    intro k hkr tm h v bl e3 e7 e8 hrow hbl hlo
    have hnb : (h.objs.set h.next (.cells (idC k) 43)).get h.next = some (.cells (idC k) 43) := get_same
    have hrow2 : RowIs ⟨h.objs.set h.next (.cells (idC k) 43), h.next + 1⟩ lo bl 43 2 v (idsL k) := hrow.kept (Nat.le_succ _) fun hb _ => get_ne (by omega)
    obtain ⟨v', h', happ, hrow', hnx, hget⟩ := append_id (Γ := Γ) hrow2 (by omega) (Nat.le_succ_of_le hlo) hnb
    have hnx : h'.next = h.next + 2 := hnx
    have hkept : Kept lo h h' := ⟨by omega, fun b hb => by
      rw [hget b (by show b < h.next + 1; omega) (.inr (by omega))]
      exact get_ne (by omega)⟩
    refine runs_loop ?_
    refine runs_seq (runs_region ?_)
    refine ops_quiet (v := .lit (.bool true)) (fs := []) rfl (by
      simp only [quiet, e7, e8]
      show one (some (.lit (.bool (decide ((k : Int) < n))))) = _
      rw [decide_eq_true (by omega)]
      rfl) rfl ?_
    refine ops_nil ?_
    refine runs_seq (runs_cond true (by simp [ev_set]) (runs_skip ?_))
    refine runs_seq (runs_block (runs_seq (runs_region ?_)))
    refine ops_quiet (v := .lit (.int .i64 (Int.ofNat k))) (fs := []) rfl (by simp only [quiet, ev_set]; exact congrArg (fun v => some (v, [])) e8) rfl ?_
    refine ops_quiet (v := .lit (.int .i64 (Int.ofNat k))) (fs := []) rfl rfl rfl ?_
    refine ops_nil ?_
    refine runs_region ?_
    refine ops_quiet (v := v) (fs := []) rfl (by simp only [quiet, ev_set]; exact congrArg (fun v => some (v, [])) e3) rfl ?_
    refine ops_quiet (v := .lit (.int .i64 (Int.ofNat k))) (fs := []) rfl rfl rfl ?_
    refine ops_quiet (v := .lit (.int .i64 (Int.ofNat (k + 1)))) (fs := []) rfl (by
      show one (some (.lit (.int .i64 (IntKind.i64.wrap ((k : Int) + 1))))) = _
      rw [wrap_succ (by omega)]
      rfl) rfl ?_
    refine ops_quiet (v := .agg (idC k)) (fs := []) rfl rfl rfl ?_
    refine ops_effect (v := .slice h.next 0 1 1) (hp' := ⟨h.objs.set h.next (.cells (idC k) 43), h.next + 1⟩) rfl rfl rfl rfl (Nat.le_succ _) rfl ?_
    refine ops_effect (v := v') (hp' := h') rfl rfl rfl (by simp only [effect, ev_set]; exact congrArg val happ) (by show h.next + 1 ≤ _; omega) rfl ?_
    refine ops_quiet (v := v') (fs := []) rfl rfl rfl ?_
    refine ops_nil ?_
    rw [show ∀ fr hp v, atEnd 1 ⟨.normal, fr, hp, v⟩ = ⟨.normal, fr, hp, v⟩ from fun _ _ _ => rfl]
    refine runs_region ?_
    refine ops_quiet (v := .lit (.int .i64 (Int.ofNat (k + 1)))) (fs := []) rfl (by
      simp only [quiet, ev_set, e8]
      show one (some (.lit (.int .i64 (IntKind.i64.wrap ((k : Int) + 1))))) = _
      rw [wrap_succ (by omega)]
      rfl) rfl ?_
    refine ops_quiet (v := .lit (.int .i64 (Int.ofNat (k + 1)))) (fs := []) rfl rfl rfl ?_
    refine ops_nil ?_
    refine (ihr (k + 1) (by omega) _ h' v' (h.next + 1) ?_ ?_ ?_ hrow' (by omega) (by omega)).mono ?_
    · simp only [ev_set]; rfl
    · simp only [ev_set]; exact e7
    · simp only [ev_set]; rfl
    · rintro o ⟨g1, tm', bl', g2, g3, g4, g5⟩
      exact ⟨g1, tm', bl', g2, g3, g4, hkept.trans g5⟩
end Go.Proofs.YtpfagdkpolhopaaGreatDoor.sheetNew
namespace Go.Proofs.YtpfagdkpolhopaaGreatDoor.sheetNew
open Go Go.Proofs.YtpfagdkpolhopaaGreatDoor.Ev

def eqTail (P : Program) (c : Bool) : Option Bool :=
  pureRun P ((((if (!c) = true then pure (ForInStep.done (some false, ())) else pure (ForInStep.yield (none, ()))) : Sem (ForInStep (Option Bool × Unit))) >>= fun s => (match s with
    | .done x => pure x
    | .yield x => pure x : Sem (Option Bool × Unit))) >>= fun r => match r.1 with
      | some r => pure r
      | none => pure true)
theorem eqTail_eq (P : Program) (c : Bool) : eqTail P c = some c := by cases c <;> rfl
theorem idEq0 (b d : Int) : pureRun Tryz.prog (Op.equal 43 (.agg #[.int .i64 0, .int .i64 b]) (.agg #[.int .i64 0, .int .i64 d])) = eqTail Tryz.prog (b == d) := by kernel_rfl
theorem idEq (b d : Int) : pureRun Tryz.prog (Op.equal 43 (.agg #[.int .i64 0, .int .i64 b]) (.agg #[.int .i64 0, .int .i64 d])) = some (b == d) := (idEq0 b d).trans (eqTail_eq _ _)

def idV (k : Nat) : Value := .agg #[.int .i64 0, .int .i64 (Int.ofNat (k + 1))]
/-- A map's entries, of the first k ids. -/
def mapL (f : Nat → SV) (k : Nat) : List (SV × SV × Nat) := (List.range k).map fun j => (SV.agg (idC j), f j, j)
theorem mapL_succ (f : Nat → SV) (k : Nat) : mapL f (k + 1) = mapL f k ++ [(SV.agg (idC k), f k, k)] := by simp [mapL, List.range_succ]

theorem find_none (f : Nat → SV) (j : Nat) : ∀ (l : List Nat) (i : Nat), (∀ x ∈ l, x ≠ j) → findQ Tryz.prog 43 (idV j) (l.map fun x => (SV.agg (idC x), f x, x)) i = some none
  | [], _, _ => rfl
  | a :: l, i, h => by
    have ha : ((Int.ofNat (j + 1)) == (Int.ofNat (a + 1))) = false := by
      have := h a (List.mem_cons_self ..)
      simp
      omega
    have hq := idEq (Int.ofNat (j + 1)) (Int.ofNat (a + 1))
    rw [ha] at hq
    have ht : SV.toLit (.agg (idC a)) = some (idV a) := rfl
    simp only [List.map_cons, findQ, ht]
    rw [show pureRun Tryz.prog (Op.equal 43 (idV j) (idV a)) = some false from hq]
    exact find_none f j l (i + 1) fun x hx => h x (List.mem_cons_of_mem _ hx)
theorem find_new (f : Nat → SV) (k : Nat) : findQ Tryz.prog 43 (idV k) (mapL f k) 0 = some none := find_none f k _ 0 fun x hx => by have := List.mem_range.1 hx; omega

theorem keyOk (e : Bool) (k : Nat) : pureRun Tryz.prog (Instr.checkKey e 10000 43 (idV k)) = some () := by kernel_rfl
set_option maxRecDepth 10000 in
theorem tyCame : tyU Tryz.prog 150 = some (.map 43 4) := rfl
set_option maxRecDepth 10000 in
theorem zeroBool : tyZero Tryz.prog 4 = some (.bool false) := rfl

theorem lookup_new {h : Hp} {M k : Nat} {f : Nat → SV} (hM : h.objs.get M = some (.map (mapL f k) k)) : lookupQ Tryz.prog h 150 (.map M) (.agg (idC k)) false = some (.lit (.bool false), [.obj M (.map (mapL f k) k)]) := by
  have ht : SV.toLit (.agg (idC k)) = some (idV k) := rfl
  simp only [lookupQ, tyCame, entriesQ, hM, ht, keyOk, find_new, zeroBool, cond_false]
theorem update_new {h : Hp} {t e : TypeId} {M k : Nat} {f : Nat → SV} {v : SV} (hu : tyU Tryz.prog t = some (.map 43 e)) (hM : h.objs.get M = some (.map (mapL f k) k)) (hv : f k = v) : mapUpdateE Tryz.prog h t (.map M) (.agg (idC k)) v = some (h.upd M (.map (mapL f (k + 1)) (k + 1))) := by
  have ht : SV.toLit (.agg (idC k)) = some (idV k) := rfl
  simp only [mapUpdateE, hu, ht, hM, keyOk, find_new]
  rw [mapL_succ, hv]

/-- An axis whose lists are these, and of which nothing is made yet. -/
def axC (vi vl : SV) : List SV := [vi, vl, .lit (.map none), .lit (.slice none 0 0), .lit (.slice none 0 0)]
def trues (n : Nat) : List (List SV) := List.replicate n [.lit (.bool true)]
theorem append_true {Γ : Glob} {h : Hp} {lo bl nb k : Nat} {v : SV} (hr : RowIs h lo bl 4 1 v (trues k)) (hn : k ≤ 1000000) (hlo : lo ≤ h.next) (hnb : h.objs.get nb = some (.cells [.lit (.bool true)] 4)) :
    ∃ v' h', appendE Tryz.prog Γ h [81, 81] v (.slice nb 0 1 1) = some (v', h') ∧ RowIs h' lo h.next 4 1 v' (trues (k + 1)) ∧ h'.next = h.next + 1 ∧ ∀ b, b < h.next → (v = .lit (.slice none 0 0) ∨ b ≠ bl) → h'.objs.get b = h.objs.get b := by
  obtain ⟨i, z, hi, hz, hsz, hby, hzs⟩ := infoBool
  have := append_one (Γ := Γ) tyBools hi hz hby (by omega) (by rw [hsz]; exact hzs) (by rw [hsz]; exact hr) (fun x hx => by rw [hsz, (List.mem_replicate.1 hx).2]; rfl) (c := [.lit (.bool true)]) (nb := nb) (by rw [hsz]; rfl) rfl (by rw [trues, List.length_replicate]; omega) hlo hnb
  rw [hsz, show trues k ++ [[.lit (.bool true)]] = trues (k + 1) from by rw [trues, trues, List.replicate_succ']] at this
  exact this

theorem local_store {P : Program} {h : Hp} {ρ : Operand → SV} {t : TypeId} {a x : Operand} {b off n : Nat} {v : SV} {l l' : List SV} {e : TypeId} (hs : tySize P t = some n) (ha : ρ a = .ptr b off) (hx : ρ x = v) (hl : v.cells.length = n) (hb : h.objs.get b = some (.cells l e)) (hsp : splice l off v.cells = some l') :
    localE P h ρ (.store t a x) = some (.lit undef, b, .cells l' e, h.next) := by
  simp only [localE, hs, ha, hx, beq_t hl, cond_true, hb, hsp, Option.map_some]
theorem store_eff {P : Program} {Γ : Glob} {h : Hp} {ρ : Operand → SV} {t : TypeId} {a x : Operand} {b off n : Nat} {v : SV} {l l' : List SV} {e : TypeId} (hs : tySize P t = some n) (ha : ρ a = .ptr b off) (hx : ρ x = v) (hl : v.cells.length = n) (hb : h.objs.get b = some (.cells l e)) (hsp : splice l off v.cells = some l') :
    effect P Γ h ρ (.store t a x) = some [(.lit undef, ⟨h.objs.set b (.cells l' e), h.next⟩)] := by
  simp only [effect, storeE, hs, ha, hx, beq_t hl, cond_true, hb, hsp, Option.map_some, Hp.upd, unit]
theorem cells_one {v : SV} (h : SV.one v = true) : v.cells = [v] := by
  unfold SV.cells
  split
  · cases h
  · cases h
  · rfl
theorem load_cell {P : Program} {Γ : Glob} {h : Hp} {t : TypeId} {b k : Nat} {cs : List SV} {e : TypeId} {v : SV} (ht : tyAgg P t = some false) (hb : h.objs.get b = some (.cells cs e)) (hv : cs[k]? = some v) : loadQ P Γ h t (.ptr b k) = some (v, [.cells b k [v]]) := by
  have hcut : cut cs k 1 = some [v] := by
    have : (cs.drop k).take 1 = [v] := by rw [List.take_one, List.head?_drop, hv]; rfl
    simp only [cut, this]; rfl
  simp only [loadQ, ht, readCells, knownCells, hb, Option.bind_some, hcut]
theorem load_all {P : Program} {Γ : Glob} {h : Hp} {t : TypeId} {b n : Nat} {cs : List SV} {e : TypeId} (ht : tyAgg P t = some true) (hs : tySize P t = some n) (hb : h.objs.get b = some (.cells cs e)) (hl : cs.length = n) : loadQ P Γ h t (.ptr b 0) = some (.agg cs, [.cells b 0 cs]) := by
  have : cut cs 0 n = some cs := by rw [← hl]; exact cut_whole cs
  simp only [loadQ, ht, hs, readCells, knownCells, hb, Option.bind_some, this]
theorem splice0 {vi vl v' : SV} (h : SV.one v' = true) : splice (axC vi vl) 0 [v'] = some (axC v' vl) := by
  simp only [splice, List.all_cons, List.all_nil, h, Bool.and_self]; rfl
theorem splice1 {vi vl v' : SV} (h : SV.one v' = true) : splice (axC vi vl) 1 [v'] = some (axC vi v') := by
  simp only [splice, List.all_cons, List.all_nil, h, Bool.and_self]; rfl
end Go.Proofs.YtpfagdkpolhopaaGreatDoor.sheetNew
namespace Go.Proofs.YtpfagdkpolhopaaGreatDoor.sheetNew
open Go Go.Proofs.YtpfagdkpolhopaaGreatDoor.Ev

noncomputable def newLoop : Code := inBlk (seqR (seqL (seqR (seqR (seqR (bodyOf Tryz.f49))))))
noncomputable def newBlk : Code := inBlk (seqL (seqR (seqR (inLoop newLoop))))
noncomputable def newOps : Array Oper := opsOf (seqL (seqR (seqR (seqR (seqR newBlk)))))

theorem fact_one {h : Hp} {b k : Nat} {cs : List SV} {e : TypeId} {v : SV} (hb : h.objs.get b = some (.cells cs e)) (hv : cs[k]? = some v) (hs : SV.sameL [v] [v] = true) : factHolds h (.cells b k [v]) = true := by
  have hcut : cut cs k 1 = some [v] := by
    have : (cs.drop k).take 1 = [v] := by rw [List.take_one, List.head?_drop, hv]; rfl
    simp only [cut, this]; rfl
  simp only [factHolds, knownCells, hb, Option.bind_some, List.length_singleton, hcut, hs]

set_option maxHeartbeats 8000000 in
set_option maxRecDepth 20000 in
theorem new_append (Γ : Glob) (A D lo bi k : Nat) (vi vl : SV) (tm : T SV) (h : Hp) (Φ : Out → Prop) (hk : k ≤ 1000)
    (e3 : Fr.ev ⟨tm, 53, []⟩ (.tmp 3) = .ptr A 0) (e6 : Fr.ev ⟨tm, 53, []⟩ (.tmp 6) = .ptr D 0)
    (hA : h.objs.get A = some (.cells (axC vi vl) 87)) (hD : h.objs.get D = some (.cells (idC k) 43)) (hAl : A < lo) (hbi : lo ≤ bi) (hlo : lo ≤ h.next)
    (hrow : RowIs h lo bi 43 2 vi (idsL k))
    (hΦ : ∀ (tm' : T SV) (h' : Hp) (vi' : SV), (∀ t, t < 32 → Fr.ev ⟨tm', 53, []⟩ (.tmp t) = Fr.ev ⟨tm, 53, []⟩ (.tmp t)) → h'.objs.get A = some (.cells (axC vi' vl) 87) → (∀ b, b < h.next → b ≠ A → (vi = .lit (.slice none 0 0) ∨ b ≠ bi) → h'.objs.get b = h.objs.get b) → h'.next = h.next + 2 →
      RowIs h' lo (h.next + 1) 43 2 vi' (idsL (k + 1)) → Φ ⟨.normal, ⟨tm', 53, []⟩, h', .lit undef⟩) :
    RunsDrawn Tryz.prog Γ newOps 12 0 [] ⟨tm, 53, []⟩ h Φ := by
  obtain ⟨hLone, hLsame⟩ := hrow.same
  have hnb : (h.objs.set h.next (.cells (idC k) 43)).get h.next = some (.cells (idC k) 43) := get_same
  have hrow2 : RowIs ⟨h.objs.set h.next (.cells (idC k) 43), h.next + 1⟩ lo bi 43 2 vi (idsL k) := hrow.kept (Nat.le_succ _) fun hb _ => get_ne (by omega)
  obtain ⟨v', h3, happ, hrow3, hn3, hget3⟩ := append_id (Γ := Γ) hrow2 (by omega) (Nat.le_succ_of_le hlo) hnb
  have hn3 : h3.next = h.next + 2 := hn3
  have hget : ∀ b, b < h.next → (vi = .lit (.slice none 0 0) ∨ b ≠ bi) → h3.objs.get b = h.objs.get b := fun b hb hne => by
    rw [hget3 b (by show b < h.next + 1; omega) hne]
    exact get_ne (by omega)
  have hA2 : (h.objs.set h.next (.cells (idC k) 43)).get A = some (.cells (axC vi vl) 87) := (get_ne (by omega)).trans hA
  have hA3 : h3.objs.get A = some (.cells (axC vi vl) 87) := (hget A (by omega) (.inr (by omega))).trans hA
  have hvone : SV.one v' = true := hrow3.same.1
  have d56 : Nat.testBit (descOf 5 newOps.toList 0 0) 6 = true := rfl
  have d46 : Nat.testBit (descOf 4 newOps.toList 0 0) 6 = false := rfl
  have d47 : Nat.testBit (descOf 4 newOps.toList 0 0) 7 = true := rfl
  refine drawn_effect (i := 6) (v := .slice h.next 0 1 1) (h2 := ⟨h.objs.set h.next (.cells (idC k) 43), h.next + 1⟩) (m' := 63)
    (held' := [⟨descOf 5 newOps.toList 0 0, [.cells D 0 (idC k)], none⟩, ⟨descOf 4 newOps.toList 0 0, [.cells A 0 [vi]], none⟩])
    (fr' := ⟨(((((tm.set 32 (.ptr A 0)).set 33 (.ptr A 0)).set 34 (.ptr A 0)).set 35 (.ptr A 0)).set 36 vi).set 37 (.agg (idC k)), 53, []⟩) (hp' := h) (by
    refine take_quiet (v := .ptr A 0) rfl rfl rfl (by simp only [quiet, e3]) rfl ?_
    refine take_quiet (v := .ptr A 0) rfl rfl rfl (by simp only [quiet, ev_set, e3]; rfl) rfl ?_
    refine take_quiet (v := .ptr A 0) rfl rfl rfl (by simp only [quiet, ev_set]; rfl) rfl ?_
    refine take_quiet (v := .ptr A 0) rfl rfl rfl (by simp only [quiet, ev_set]; rfl) rfl ?_
    refine take_lean (v := vi) (fs := .cells A 0 [vi]) rfl rfl rfl (by simp only [quiet, ev_set]; exact load_cell rfl hA rfl) rfl ?_
    refine take_lean (v := .agg (idC k)) (fs := .cells D 0 (idC k)) rfl rfl rfl (by simp only [quiet, ev_set, e6]; exact load_all (n := 2) rfl rfl hD rfl) rfl ?_
    refine take_loud rfl rfl rfl rfl rfl ?_
    refine take_wait rfl rfl ?_
    refine take_wait rfl rfl ?_
    refine take_wait rfl rfl ?_
    refine take_wait rfl rfl ?_
    rfl) rfl rfl rfl rfl (Nat.le_succ _) rfl rfl ?_ ?_
  · simp only [factsStand, d56, d46, cond_true, cond_false, List.all_cons, List.all_nil, fact_one (h := ⟨h.objs.set h.next (.cells (idC k) 43), h.next + 1⟩) (k := 0) (v := vi) hA2 rfl hLsame, Bool.or_true, Bool.and_true]
  rw [show drop 6 [⟨descOf 5 newOps.toList 0 0, [.cells D 0 (idC k)], none⟩, ⟨descOf 4 newOps.toList 0 0, [.cells A 0 [vi]], none⟩] = [⟨descOf 4 newOps.toList 0 0, [.cells A 0 [vi]], none⟩] from by simp only [drop, d56, d46, cond_true, cond_false]]
  refine drawn_effect (i := 7) (v := v') (h2 := h3) (m' := 127) (held' := [⟨descOf 4 newOps.toList 0 0, [.cells A 0 [vi]], none⟩]) (by
    refine take_done rfl ?_
    refine take_done rfl ?_
    refine take_done rfl ?_
    refine take_done rfl ?_
    refine take_done rfl ?_
    refine take_done rfl ?_
    refine take_done rfl ?_
    refine take_loud rfl rfl rfl rfl rfl ?_
    refine take_wait rfl rfl ?_
    refine take_wait rfl rfl ?_
    refine take_wait rfl rfl ?_
    rfl) rfl rfl rfl (by simp only [effect, ev_set]; exact congrArg val happ) (by show h.next + 1 ≤ _; omega) rfl rfl ?_ ?_
  · simp only [factsStand, d47, cond_true, Bool.and_true]
  rw [show drop 7 [⟨descOf 4 newOps.toList 0 0, [.cells A 0 [vi]], none⟩] = [] from by simp only [drop, d47, cond_true]]
  refine drawn_end (m' := 2047) (held' := [⟨descOf 10 newOps.toList 0 0, [], some (A, .cells (axC v' vl) 87)⟩]) (hp' := ⟨h3.objs.set A (.cells (axC v' vl) 87), h3.next⟩) (by
    refine take_done rfl ?_
    refine take_done rfl ?_
    refine take_done rfl ?_
    refine take_done rfl ?_
    refine take_done rfl ?_
    refine take_done rfl ?_
    refine take_done rfl ?_
    refine take_done rfl ?_
    refine take_quiet (v := .ptr A 0) rfl rfl rfl (by simp only [quiet, ev_set]; rfl) rfl ?_
    refine take_quiet (v := .ptr A 0) rfl rfl rfl (by simp only [quiet, ev_set]; rfl) rfl ?_
    refine take_local (v := .lit undef) (b := A) (nx := h3.next) (ob := .cells (axC v' vl) 87) rfl rfl rfl rfl (by
      refine local_store (n := 1) (v := v') (l := axC vi vl) rfl (by simp only [ev_set]; rfl) (by simp only [ev_set]; rfl) (by rw [cells_one hvone]; rfl) hA3 (by rw [cells_one hvone]; exact splice0 hvone)) rfl rfl ?_
    rfl) rfl rfl ?_
  refine hΦ _ _ v' (fun t ht => ?_) get_same (fun b hb hne hbi => (get_ne hne).trans (hget b hb hbi)) hn3 (hrow3.kept (Nat.le_refl _) fun _ hb => get_ne (by omega))
  have hne : ∀ d : Nat, 32 ≤ d → ¬ t = d := fun d hd e => by
    have ht' : Nat.lt t 32 := ht
    rw [e] at ht'
    exact absurd ht' (Nat.not_lt.2 hd)
  simp only [ev_set, if_neg (hne 32 (by decide)), if_neg (hne 33 (by decide)), if_neg (hne 34 (by decide)), if_neg (hne 35 (by decide)), if_neg (hne 36 (by decide)), if_neg (hne 37 (by decide)), if_neg (hne 38 (by decide)), if_neg (hne 39 (by decide)), if_neg (hne 40 (by decide)), if_neg (hne 41 (by decide))]

theorem cut_flat' {n : Nat} : ∀ {kids : List (List SV)}, (∀ x ∈ kids, x.length = n) → ∀ {k : Nat} {x : List SV}, kids[k]? = some x → cut kids.flatten (k * n) n = some x
  | [], _, k, x, h => by simp at h
  | y :: ys, hl, 0, x, h => by
    simp only [List.getElem?_cons_zero, Option.some.injEq] at h
    subst h
    have hy := hl y (List.mem_cons_self ..)
    have e : ((y ++ ys.flatten).drop (0 * n)).take n = y := by
      rw [Nat.zero_mul, List.drop_zero, ← hy, List.take_left']
      rfl
    simp only [List.flatten_cons, cut, e, beq_t hy, cond_true]
  | y :: ys, hl, k + 1, x, h => by
    have hy := hl y (List.mem_cons_self ..)
    have ih := cut_flat' (kids := ys) (fun z hz => hl z (List.mem_cons_of_mem _ hz)) (k := k) (x := x) (by simpa using h)
    have e : (y ++ ys.flatten).drop ((k + 1) * n) = ys.flatten.drop (k * n) := by
      rw [Nat.succ_mul, Nat.add_comm, ← hy, List.drop_append, List.drop_eq_nil_of_le (by omega), List.nil_append]
      congr 1
      omega
    simp only [List.flatten_cons, cut] at ih ⊢
    rw [e]
    exact ih
set_option maxRecDepth 10000 in
theorem tyAggId : tyAgg Tryz.prog 43 = some true := rfl
set_option maxRecDepth 10000 in
theorem tySizeId : tySize Tryz.prog 43 = some 2 := rfl
/-- What a row that was read holds. -/
theorem row_load {Γ : Glob} {h : Hp} {b k n : Nat} (hb : h.objs.get b = some (.row (idsL n).flatten 43 n b 2)) (hk : k < n) : loadQ Tryz.prog Γ h 43 (.ptr b (0 + k * 2)) = some (.agg (idC k), [.cells b (0 + k * 2) (idC k)]) := by
  have hcut : cut (idsL n).flatten (0 + k * 2) 2 = some (idC k) := by rw [Nat.zero_add]; exact cut_flat' (fun x hx => idsL_mem hx) (idsL_at hk)
  have t1 : tyAgg Tryz.prog 43 = some true := tyAggId
  have t2 : tySize Tryz.prog 43 = some 2 := tySizeId
  simp only [loadQ, t1, t2, readCells, knownCells, hb, Option.bind_some, hcut]
theorem row_index {b k n : Nat} (hk : k < n) : indexAddrQ Tryz.prog 27 (.row b 0 n n b) (.lit (.int .i64 (Int.ofNat k))) = some (.ptr b (0 + k * 2)) := by
  have hb : Nat.blt k n = true := Nat.ble_eq_true_of_le hk
  simp only [indexAddrQ, tyIds, tySizeId, idxQ, hb, cond_true]

theorem update_eff {Γ : Glob} {h h' : Hp} {ρ : Operand → SV} {t : TypeId} {m x y : Operand} {M k : Nat} {v : SV} (hm : ρ m = .map M) (hx : ρ x = .agg (idC k)) (hy : ρ y = v) (hu : mapUpdateE Tryz.prog h t (.map M) (.agg (idC k)) v = some h') : effect Tryz.prog Γ h ρ (.mapUpdate t m x y) = some [(.lit undef, h')] := by
  simp only [effect, hm, hx, hy, hu, unit, Option.map_some]
theorem eq_zero (k : Nat) : binQ Tryz.prog .eql 43 (.tmp 22) (.tmp 23) (.agg (idC k)) (.agg [.lit (.int .i64 0), .lit (.int .i64 0)]) = some (.lit (.bool false)) := by kernel_rfl

noncomputable def newEnd : Code := seqR (seqR (seqR (seqR (seqR newBlk))))
noncomputable def newNext : Code := seqR (seqR (seqR (inLoop newLoop)))
set_option maxHeartbeats 8000000 in
set_option maxRecDepth 20000 in
theorem new_second (Γ : Glob) (lo n bin k bl bi : Nat) (vi vl : SV) (tm : T SV) (h : Hp) (hn : n ≤ 1000) (hkn : k < n) (hbin : bin < lo - 2) (e3 : Fr.ev ⟨tm, 53, []⟩ (.tmp 3) = .ptr (lo - 2) 0) (e4 : Fr.ev ⟨tm, 53, []⟩ (.tmp 4) = .map (lo - 1)) (e10 : Fr.ev ⟨tm, 53, []⟩ (.tmp 10) = .row bin 0 n n bin)
    (e11 : Fr.ev ⟨tm, 53, []⟩ (.tmp 11) = .lit (.int .i64 (Int.ofNat n))) (e12 : Fr.ev ⟨tm, 53, []⟩ (.tmp 12) = .lit (.int .i64 (Int.ofNat k)))
    (hA : h.objs.get (lo - 2) = some (.cells (axC vi vl) 87)) (hM : h.objs.get (lo - 1) = some (.map (mapL (fun _ => .lit (.bool true)) (k + 1)) (k + 1))) (hin : h.objs.get bin = some (.row (idsL n).flatten 43 n bin 2))
    (hi : RowIs h lo bi 43 2 vi (idsL (k + 1))) (hl : RowIs h lo bl 4 1 vl (trues k)) (hlo2 : 2 ≤ lo) (hbl : lo ≤ bl) (_hbi : lo ≤ bi) (hlo : lo ≤ h.next) (hne : vl = .lit (.slice none 0 0) ∨ bi ≠ bl) (Φ : Out → Prop)
    (hΦ : ∀ (tm' : T SV) (h' : Hp) (vl' : SV), Fr.ev ⟨tm', 53, []⟩ (.tmp 3) = .ptr (lo - 2) 0 → Fr.ev ⟨tm', 53, []⟩ (.tmp 4) = .map (lo - 1) → Fr.ev ⟨tm', 53, []⟩ (.tmp 10) = .row bin 0 n n bin → Fr.ev ⟨tm', 53, []⟩ (.tmp 11) = .lit (.int .i64 (Int.ofNat n)) → Fr.ev ⟨tm', 53, []⟩ (.tmp 12) = .lit (.int .i64 (Int.ofNat (k + 1))) →
      h'.objs.get (lo - 2) = some (.cells (axC vi vl') 87) → h'.objs.get (lo - 1) = some (.map (mapL (fun _ => .lit (.bool true)) (k + 1)) (k + 1)) → h'.objs.get bin = some (.row (idsL n).flatten 43 n bin 2) →
      RowIs h' lo bi 43 2 vi (idsL (k + 1)) → RowIs h' lo (h.next + 1) 4 1 vl' (trues (k + 1)) → h'.next = h.next + 2 → (∀ b, b < lo - 2 → h'.objs.get b = h.objs.get b) → Runs Tryz.prog Γ (.code newLoop none ⟨tm', 53, []⟩ h') Φ) :
    Runs Tryz.prog Γ (.code newEnd none ⟨tm, 53, []⟩ h) fun o => Then (fun f p => Runs Tryz.prog Γ (.code newNext none f p) (Then (fun f p => Runs Tryz.prog Γ (.code newLoop none f p) Φ) Φ)) (Then (fun f p => Runs Tryz.prog Γ (.code newLoop none f p) Φ) Φ) (atEnd 1 o) := by
  have hnb : (h.objs.set h.next (.cells [.lit (.bool true)] 4)).get h.next = some (.cells [.lit (.bool true)] 4) := get_same
  have hl2 : RowIs ⟨h.objs.set h.next (.cells [.lit (.bool true)] 4), h.next + 1⟩ lo bl 4 1 vl (trues k) := hl.kept (Nat.le_succ _) fun hb _ => get_ne (by omega)
  obtain ⟨v', h3, happ, hl3, hn3, hget3⟩ := append_true (Γ := Γ) hl2 (by omega) (Nat.le_succ_of_le hlo) hnb
  have hn3 : h3.next = h.next + 2 := hn3
  have hget : ∀ b, b < h.next → (vl = .lit (.slice none 0 0) ∨ b ≠ bl) → h3.objs.get b = h.objs.get b := fun b hb hne => by
    rw [hget3 b (by show b < h.next + 1; omega) hne]
    exact get_ne (by omega)
  have hA3 : h3.objs.get (lo - 2) = some (.cells (axC vi vl) 87) := (hget (lo - 2) (by omega) (.inr (by omega))).trans hA
  have hvone : SV.one v' = true := hl3.same.1
  have hle : h.next + 1 ≤ h3.next := by omega
  have hM3 := (hget (lo - 1) (by omega) (.inr (by omega))).trans hM
  have hin3 := (hget bin (by omega) (.inr (by omega))).trans hin
  have hi3 : RowIs h3 lo bi 43 2 vi (idsL (k + 1)) := hi.kept (by omega) fun hb _ => hget bi hb hne
  have hAM : lo - 1 ≠ lo - 2 := by omega
  have hAb : bin ≠ lo - 2 := by omega
  have hAi : ∀ b, lo ≤ b → b ≠ lo - 2 := fun b hb => by omega
  have hlow : ∀ b, b < lo - 2 → b ≠ lo - 2 ∧ b < h.next ∧ b ≠ bl := fun b hb => by omega
  refine runs_region ?_
  refine ops_quiet (v := .ptr (lo - 2) 0) (fs := []) rfl (by simp only [quiet, e3]) rfl ?_
  refine ops_quiet (v := .ptr (lo - 2) 0) (fs := []) rfl (by simp only [quiet, ev_set, e3]; rfl) rfl ?_
  refine ops_quiet (v := .ptr (lo - 2) 0) (fs := []) rfl (by simp only [quiet, ev_set]; rfl) rfl ?_
  refine ops_quiet (v := .ptr (lo - 2) 1) (fs := []) rfl (by simp only [quiet, ev_set]; rfl) rfl ?_
  refine ops_quiet (v := vl) (fs := [.cells (lo - 2) 1 [vl]]) rfl (by simp only [quiet, ev_set]; exact load_cell rfl hA rfl) rfl ?_
  refine ops_effect (v := .slice h.next 0 1 1) (hp' := ⟨h.objs.set h.next (.cells [.lit (.bool true)] 4), h.next + 1⟩) rfl rfl rfl rfl (Nat.le_succ _) rfl ?_
  refine ops_effect (v := v') (hp' := h3) rfl rfl rfl (by simp only [effect, ev_set]; exact congrArg val happ) hle rfl ?_
  refine ops_quiet (v := .ptr (lo - 2) 0) (fs := []) rfl (by simp only [quiet, ev_set]; rfl) rfl ?_
  refine ops_quiet (v := .ptr (lo - 2) 1) (fs := []) rfl (by simp only [quiet, ev_set]; rfl) rfl ?_
  refine ops_effect (v := .lit undef) (hp' := ⟨h3.objs.set (lo - 2) (.cells (axC vi v') 87), h3.next⟩) rfl rfl rfl (store_eff (n := 1) (v := v') (l := axC vi vl) rfl (by simp only [ev_set]; rfl) (by simp only [ev_set]; rfl) (by rw [cells_one hvone]; rfl) hA3 (by rw [cells_one hvone]; exact splice1 hvone)) (Nat.le_refl _) rfl ?_
  refine ops_nil ?_
  rw [show ∀ fr hp v, atEnd 1 ⟨.normal, fr, hp, v⟩ = ⟨.normal, fr, hp, v⟩ from fun _ _ _ => rfl]
  refine runs_region ?_
  refine ops_quiet (v := .lit (.int .i64 (Int.ofNat (k + 1)))) (fs := []) rfl (by
    simp only [quiet, ev_set, e12]
    show one (some (.lit (.int .i64 (IntKind.i64.wrap ((k : Int) + 1))))) = _
    rw [wrap_succ (by omega)]
    rfl) rfl ?_
  refine ops_quiet (v := .lit (.int .i64 (Int.ofNat (k + 1)))) (fs := []) rfl rfl rfl ?_
  refine ops_nil ?_
  refine hΦ _ _ v' ?_ ?_ ?_ ?_ ?_ get_same ((get_ne hAM).trans hM3) ((get_ne hAb).trans hin3) (hi3.kept (Nat.le_refl _) fun _ hb => get_ne (hAi _ hb)) (hl3.kept (Nat.le_refl _) fun _ hb => get_ne (hAi _ hb)) hn3 fun b hb => (get_ne (hlow b hb).1).trans (hget b (hlow b hb).2.1 (.inr (hlow b hb).2.2))
  · simp only [ev_set]; exact e3
  · simp only [ev_set]; exact e4
  · simp only [ev_set]; exact e10
  · simp only [ev_set]; exact e11
  · simp only [ev_set]; rfl

set_option maxHeartbeats 8000000 in
set_option maxRecDepth 20000 in
theorem new_loop (Γ : Glob) (lo n bin : Nat) (vin : SV) (hn : n ≤ 1000) (hvin : 0 < n → vin = .row bin 0 n n bin) (hlo2 : 2 ≤ lo) (hbin2 : 0 < n → bin < lo - 2) :
    ∀ (rem k : Nat), k + rem = n → ∀ (tm : T SV) (h : Hp) (vi vl : SV) (bi bl : Nat), Fr.ev ⟨tm, 53, []⟩ (.tmp 3) = .ptr (lo - 2) 0 → Fr.ev ⟨tm, 53, []⟩ (.tmp 4) = .map (lo - 1) → Fr.ev ⟨tm, 53, []⟩ (.tmp 10) = vin → Fr.ev ⟨tm, 53, []⟩ (.tmp 11) = .lit (.int .i64 (Int.ofNat n)) → Fr.ev ⟨tm, 53, []⟩ (.tmp 12) = .lit (.int .i64 (Int.ofNat k)) →
      h.objs.get (lo - 2) = some (.cells (axC vi vl) 87) → h.objs.get (lo - 1) = some (.map (mapL (fun _ => .lit (.bool true)) k) k) → (0 < n → h.objs.get bin = some (.row (idsL n).flatten 43 n bin 2)) →
      RowIs h lo bi 43 2 vi (idsL k) → RowIs h lo bl 4 1 vl (trues k) → lo ≤ bi → lo ≤ bl → bi ≠ bl → lo ≤ h.next →
      Runs Tryz.prog Γ (.code newLoop none ⟨tm, 53, []⟩ h) fun o => o.exit = .exit 0 ∧ ∃ (tm' : T SV) (vi' vl' : SV) (bi' bl' : Nat), o.fr = ⟨tm', 53, []⟩ ∧ Fr.ev ⟨tm', 53, []⟩ (.tmp 3) = .ptr (lo - 2) 0 ∧ o.hp.objs.get (lo - 2) = some (.cells (axC vi' vl') 87) ∧
        RowIs o.hp lo bi' 43 2 vi' (idsL n) ∧ RowIs o.hp lo bl' 4 1 vl' (trues n) ∧ lo ≤ bi' ∧ lo ≤ bl' ∧ Kept (lo - 2) h o.hp := by
  intro rem
  induction rem with
  | zero =>
    intro k hkr tm h vi vl bi bl e3 e4 e10 e11 e12 hA hM hin hi hl hbi hbl hne hlo
    obtain rfl : k = n := by omega
    refine runs_loop ?_
    refine runs_seq (runs_region ?_)
    refine ops_quiet (v := .lit (.bool false)) (fs := []) rfl (by
      simp only [quiet, e11, e12]
      show one (some (.lit (.bool (decide ((k : Int) < k))))) = _
      rw [decide_eq_false (by omega)]
      rfl) rfl ?_
    refine ops_nil ?_
    refine runs_seq (runs_cond false (by simp [ev_set]) (runs_exit ?_))
    refine ⟨rfl, _, vi, vl, bi, bl, rfl, ?_, hA, hi, hl, hbi, hbl, Kept.refl _ _⟩
    simp only [ev_set, e3]
    rfl
  | succ rem ihr =>
    intro k hkr tm h vi vl bi bl e3 e4 e10 e11 e12 hA hM hin hi hl hbi hbl hne hlo
    have hkn : k < n := by omega
    have hin := hin (by omega)
    have hbin2 := hbin2 (by omega)
    obtain rfl := hvin (by omega)
    have hlA : (axC vi vl)[0]? = some vi := rfl
    -- the heap behind the id's cell
    obtain ⟨h1, hh1⟩ : ∃ h1 : Hp, h1 = ⟨(h.objs.set h.next (.cells [.lit (.int .i64 0), .lit (.int .i64 0)] 43)).set h.next (.cells (idC k) 43), h.next + 1⟩ := ⟨_, rfl⟩
    have hn1 : h1.next = h.next + 1 := by rw [hh1]
    have hD1 : h1.objs.get h.next = some (.cells (idC k) 43) := by rw [hh1]; exact get_same
    have hk1 : ∀ b, b < h.next → h1.objs.get b = h.objs.get b := fun b hb => by rw [hh1]; exact (get_ne (by omega)).trans (get_ne (by omega))
    -- behind the map's entry
    obtain ⟨h2, hh2⟩ : ∃ h2 : Hp, h2 = h1.upd (lo - 1) (.map (mapL (fun _ => .lit (.bool true)) (k + 1)) (k + 1)) := ⟨_, rfl⟩
    have hn2 : h2.next = h.next + 1 := by rw [hh2]; exact hn1
    have hM2 : h2.objs.get (lo - 1) = some (.map (mapL (fun _ => .lit (.bool true)) (k + 1)) (k + 1)) := by rw [hh2]; exact get_same
    have hk2 : ∀ b, b ≠ lo - 1 → h2.objs.get b = h1.objs.get b := fun b hb => by rw [hh2]; exact get_ne hb
    have hM1 : h1.objs.get (lo - 1) = some (.map (mapL (fun _ => .lit (.bool true)) k) k) := (hk1 _ (by omega)).trans hM
    have hup : mapUpdateE Tryz.prog h1 150 (.map (lo - 1)) (.agg (idC k)) (.lit (.bool true)) = some h2 := by rw [hh2]; exact update_new tyCame hM1 rfl
    have hA1 : h1.objs.get (lo - 2) = some (.cells (axC vi vl) 87) := (hk1 _ (by omega)).trans hA
    have hA2 : h2.objs.get (lo - 2) = some (.cells (axC vi vl) 87) := (hk2 _ (by omega)).trans hA1
    have hD2 : h2.objs.get h.next = some (.cells (idC k) 43) := (hk2 _ (by omega)).trans hD1
    have hi2 : RowIs h2 lo bi 43 2 vi (idsL k) := hi.kept (by omega) fun hb _ => (hk2 _ (by omega)).trans (hk1 _ hb)
    have hl2 : RowIs h2 lo bl 4 1 vl (trues k) := hl.kept (by omega) fun hb _ => (hk2 _ (by omega)).trans (hk1 _ hb)
    have hk1000 : k ≤ 1000 := by omega
    have hne3 : vl = .lit (.slice none 0 0) ∨ h2.next + 1 ≠ bl := by
      rcases hl2 with ⟨r, _⟩ | ⟨_, _, r, _⟩
      · exact .inl r
      · exact .inr (by omega)
    have hAlo : lo - 2 < lo := by omega
    have hlo2' : lo ≤ h2.next := by omega
    refine runs_loop ?_
    refine runs_seq (runs_region ?_)
    refine ops_quiet (v := .lit (.bool true)) (fs := []) rfl (by
      simp only [quiet, e11, e12]
      show one (some (.lit (.bool (decide ((k : Int) < n))))) = _
      rw [decide_eq_true (by omega)]
      rfl) rfl ?_
    refine ops_nil ?_
    refine runs_seq (runs_cond true (by simp [ev_set]) (runs_skip ?_))
    refine runs_seq (runs_block (runs_seq (runs_region ?_)))
    refine ops_quiet (v := .ptr bin (0 + k * 2)) (fs := []) rfl (by simp only [quiet, ev_set, e10, e12]; exact congrArg one (row_index hkn)) rfl ?_
    refine ops_quiet (v := .agg (idC k)) (fs := [.cells bin (0 + k * 2) (idC k)]) rfl (by simp only [quiet, ev_set]; exact row_load hin hkn) rfl ?_
    refine ops_effect (v := .ptr h.next 0) (hp' := ⟨h.objs.set h.next (.cells [.lit (.int .i64 0), .lit (.int .i64 0)] 43), h.next + 1⟩) rfl rfl rfl rfl (Nat.le_succ _) rfl ?_
    refine ops_effect (v := .lit undef) (hp' := h1) rfl rfl rfl (by
      rw [hh1]
      exact store_eff (n := 2) (l := [.lit (.int .i64 0), .lit (.int .i64 0)]) (v := .agg (idC k)) rfl (by simp only [ev_set]; rfl) (by simp only [ev_set]; rfl) rfl get_same rfl) (by show h.next + 1 ≤ _; omega) rfl ?_
    refine ops_nil ?_
    refine runs_seq (runs_seq (runs_region ?_))
    refine ops_quiet (v := .ptr (lo - 2) 0) (fs := []) rfl (by simp only [quiet, ev_set, e3]; rfl) rfl ?_
    refine ops_quiet (v := .ptr (lo - 2) 0) (fs := []) rfl (by simp only [quiet, ev_set]; rfl) rfl ?_
    refine ops_quiet (v := .ptr (lo - 2) 0) (fs := []) rfl (by simp only [quiet, ev_set]; rfl) rfl ?_
    refine ops_quiet (v := vi) (fs := [.cells (lo - 2) 0 [vi]]) rfl (by simp only [quiet, ev_set]; exact load_cell rfl hA1 rfl) rfl ?_
    refine ops_quiet (v := .lit (.int .i64 (Int.ofNat k))) (fs := []) rfl (by
      have := RowIs.len (P := Tryz.prog) (h' := h1) tyIds hi (nilIds h1)
      rw [idsL_len] at this
      exact this) rfl ?_
    refine ops_quiet (v := .lit (.bool false)) (fs := []) rfl (by
      simp only [quiet, ev_set]
      show one (some (.lit (.bool ((k : Int) == 1000)))) = _
      rw [show ((k : Int) == 1000) = false from by simp; omega]
      rfl) rfl ?_
    refine ops_nil ?_
    refine runs_cond false (by simp [ev_set]) (runs_skip ?_)
    have hD1' : loadQ Tryz.prog Γ h1 43 (.ptr h.next 0) = some (.agg (idC k), [.cells h.next 0 (idC k)]) := load_all (n := 2) tyAggId tySizeId hD1 rfl
    refine runs_seq (runs_seq (runs_region ?_))
    refine ops_quiet (v := .agg (idC k)) (fs := [.cells h.next 0 (idC k)]) rfl (by simp only [quiet, ev_set]; exact hD1') rfl ?_
    refine ops_quiet (v := .agg [.lit (.int .i64 0), .lit (.int .i64 0)]) (fs := []) rfl rfl rfl ?_
    refine ops_quiet (v := .lit (.bool false)) (fs := []) rfl (by simp only [quiet, ev_set]; exact congrArg one (eq_zero k)) rfl ?_
    refine ops_quiet (v := .lit (.bool false)) (fs := []) rfl rfl rfl ?_
    refine ops_quiet (v := .map (lo - 1)) (fs := []) rfl (by simp only [quiet, ev_set, e4]; rfl) rfl ?_
    refine ops_quiet (v := .agg (idC k)) (fs := [.cells h.next 0 (idC k)]) rfl (by simp only [quiet, ev_set]; exact hD1') rfl ?_
    refine ops_quiet (v := .lit (.bool false)) (fs := [.obj (lo - 1) (.map (mapL (fun _ => .lit (.bool true)) k) k)]) rfl (by simp only [quiet, ev_set]; exact lookup_new hM1) rfl ?_
    refine ops_quiet (v := .lit (.bool false)) (fs := []) rfl rfl rfl ?_
    refine ops_nil ?_
    refine runs_cond false (by simp [ev_set]) (runs_skip ?_)
    refine runs_seq (runs_region ?_)
    refine ops_quiet (v := .map (lo - 1)) (fs := []) rfl (by simp only [quiet, ev_set, e4]; rfl) rfl ?_
    refine ops_quiet (v := .agg (idC k)) (fs := [.cells h.next 0 (idC k)]) rfl (by simp only [quiet, ev_set]; exact hD1') rfl ?_
    refine ops_effect (v := .lit undef) (hp' := h2) rfl rfl rfl (update_eff (M := lo - 1) (k := k) (v := .lit (.bool true)) (by simp only [ev_set]; rfl) (by simp only [ev_set]; rfl) rfl hup) (Nat.le_of_eq (hn1.trans hn2.symm)) rfl ?_
    refine ops_nil ?_
    refine runs_seq (runs_drawn (ops := newOps) rfl ?_)
    refine new_append Γ (lo - 2) h.next lo bi k vi vl _ h2 _ hk1000 ?_ ?_ hA2 hD2 hAlo hbi hlo2' hi2 ?_
    · simp only [ev_set]; exact e3
    · simp only [ev_set]; rfl
    intro tm3 h3 vi' hev hA3 hk3 hn3 hi3
    -- the second list
    have f3 : Fr.ev ⟨tm3, 53, []⟩ (.tmp 3) = .ptr (lo - 2) 0 := by rw [hev 3 (by decide)]; simp only [ev_set]; exact e3
    have f4 : Fr.ev ⟨tm3, 53, []⟩ (.tmp 4) = .map (lo - 1) := by rw [hev 4 (by decide)]; simp only [ev_set]; exact e4
    have f10 : Fr.ev ⟨tm3, 53, []⟩ (.tmp 10) = .row bin 0 n n bin := by rw [hev 10 (by decide)]; simp only [ev_set]; exact e10
    have f11 : Fr.ev ⟨tm3, 53, []⟩ (.tmp 11) = .lit (.int .i64 (Int.ofNat n)) := by rw [hev 11 (by decide)]; simp only [ev_set]; exact e11
    have f12 : Fr.ev ⟨tm3, 53, []⟩ (.tmp 12) = .lit (.int .i64 (Int.ofNat k)) := by rw [hev 12 (by decide)]; simp only [ev_set]; exact e12
    have hl3 : RowIs h3 lo bl 4 1 vl (trues k) := hl2.kept (by omega) fun hb _ => hk3 bl hb (by omega) (.inr (by omega))
    have hM3 : h3.objs.get (lo - 1) = some (.map (mapL (fun _ => .lit (.bool true)) (k + 1)) (k + 1)) := (hk3 _ (by omega) (by omega) (.inr (by omega))).trans hM2
    have hin3 : h3.objs.get bin = some (.row (idsL n).flatten 43 n bin 2) := (hk3 _ (by omega) (by omega) (.inr (by omega))).trans ((hk2 _ (by omega)).trans ((hk1 _ (by omega)).trans hin))
    have hkept3 : ∀ b, b < lo - 2 → h3.objs.get b = h.objs.get b := fun b hb => (hk3 b (by omega) (by omega) (.inr (by omega))).trans ((hk2 b (by omega)).trans (hk1 b (by omega)))
    refine new_second Γ lo n bin k bl (h2.next + 1) vi' vl tm3 h3 hn hkn hbin2 f3 f4 f10 f11 f12 hA3 hM3 hin3 hi3 hl3 (by omega) hbl (by omega) (by omega) hne3 _ ?_
    intro tm4 h4 vl' g3 g4 g10 g11 g12 hA4 hM4 hin4 hi4 hl4 hn4 hk4
    refine (ihr (k + 1) (by omega) tm4 h4 vi' vl' (h2.next + 1) (h3.next + 1) g3 g4 g10 g11 g12 hA4 hM4 (fun _ => hin4) hi4 hl4 (by omega) (by omega) (by omega) (by omega)).mono ?_
    rintro o ⟨q1, tm', vi2, vl2, bi2, bl2, q2, q3, q4, q5, q6, q7, q8, q9⟩
    exact ⟨q1, tm', vi2, vl2, bi2, bl2, q2, q3, q4, q5, q6, q7, q8, Kept.trans ⟨by omega, fun b hb => (hk4 b hb).trans (hkept3 b hb)⟩ q9⟩
end Go.Proofs.YtpfagdkpolhopaaGreatDoor.sheetNew
namespace Go.Proofs.YtpfagdkpolhopaaGreatDoor.sheetNew
open Go Go.Proofs.YtpfagdkpolhopaaGreatDoor.Ev

theorem clone_none {P : Program} {h : Hp} {f : FuncId} {args : List SV} {fn : Func} (hf : P.funcs[f]? = some fn) (hb : fn.body.isNone = false) : cloneE P h f args = none := by
  unfold cloneE
  rw [hf]
  split
  · rename_i h1
    cases h1
    rw [hb]
    rfl
  · rfl
/-- A list that a run owns, in blocks of which F holds. -/
def RowF (h : Hp) (F : Nat → Prop) (bl : Nat) (e : TypeId) (size : Nat) (v : SV) (l : List (List SV)) : Prop :=
  (v = .lit (.slice none 0 0) ∧ l = []) ∨ (v = .row bl 0 l.length l.length bl ∧ F bl ∧ bl < h.next ∧ h.objs.get bl = some (.row l.flatten e l.length bl size))
theorem RowF.kept {h h' : Hp} {F F' : Nat → Prop} {bl : Nat} {e : TypeId} {size : Nat} {v : SV} {l : List (List SV)} (hr : RowF h F bl e size v l) (hn : h.next ≤ h'.next) (hg : F bl → bl < h.next → F' bl ∧ h'.objs.get bl = h.objs.get bl) : RowF h' F' bl e size v l := by
  rcases hr with hr | ⟨r1, r2, r3, r4⟩
  · exact .inl hr
  · exact .inr ⟨r1, (hg r2 r3).1, by omega, (hg r2 r3).2.trans r4⟩
theorem rowF_of {h : Hp} {F : Nat → Prop} {lo bl : Nat} {e : TypeId} {size : Nat} {v : SV} {l : List (List SV)} (hr : RowIs h lo bl e size v l) (hF : lo ≤ bl → bl < h.next → F bl) : RowF h F bl e size v l := by
  rcases hr with hr | ⟨r1, r2, r3, r4⟩
  · exact .inl hr
  · exact .inr ⟨r1, hF r2 r3, r3, r4⟩
/-- An axis of the first n ids, all live, of which nothing is made yet. -/
def NewAx (h : Hp) (F : Nat → Prop) (A n : Nat) : Prop := F A ∧ A < h.next ∧ ∃ vi vl bi bl, h.objs.get A = some (.cells (axC vi vl) 87) ∧ RowF h F bi 43 2 vi (idsL n) ∧ RowF h F bl 4 1 vl (trues n)
theorem NewAx.kept {h h' : Hp} {F F' : Nat → Prop} {A n : Nat} (ha : NewAx h F A n) (hn : h.next ≤ h'.next) (hg : ∀ b, F b → b < h.next → F' b ∧ h'.objs.get b = h.objs.get b) : NewAx h' F' A n := by
  obtain ⟨a1, a2, vi, vl, bi, bl, a3, a4, a5⟩ := ha
  exact ⟨(hg A a1 a2).1, by omega, vi, vl, bi, bl, (hg A a1 a2).2.trans a3, a4.kept hn (hg bi), a5.kept hn (hg bl)⟩

set_option maxRecDepth 10000 in
theorem zeroAxis : tyZero Tryz.prog 87 = some (.agg #[.slice none 0 0, .slice none 0 0, .map none, .slice none 0 0, .slice none 0 0]) := rfl

set_option maxHeartbeats 8000000 in
set_option maxRecDepth 20000 in
theorem axisNew_runs (Γ : Glob) (h : Hp) (vin : SV) (lo bin n : Nat) (hn : n ≤ 1000) (hrow : RowIs h lo bin 43 2 vin (idsL n)) :
    Runs Tryz.prog Γ (.call 49 [vin] h) fun r => r.v = .ptr h.next 0 ∧ NewAx r.hp (fun b => h.next ≤ b) h.next n ∧ Kept h.next h r.hp := by
  have hlen : lenQ Tryz.prog ⟨(h.objs.set h.next (.cells (axC (.lit (.slice none 0 0)) (.lit (.slice none 0 0))) 87)).set (h.next + 1) (.map [] 0), h.next + 2⟩ 27 vin = some (.lit (.int .i64 (Int.ofNat n)), []) := by
    have := RowIs.len (P := Tryz.prog) tyIds hrow (nilIds ⟨(h.objs.set h.next (.cells (axC (.lit (.slice none 0 0)) (.lit (.slice none 0 0))) 87)).set (h.next + 1) (.map [] 0), h.next + 2⟩)
    rw [idsL_len] at this
    exact this
  have hvin : 0 < n → vin = .row bin 0 n n bin ∧ bin < h.next ∧ h.objs.get bin = some (.row (idsL n).flatten 43 n bin 2) := fun hp => by
    rcases hrow with ⟨_, r2⟩ | ⟨r1, _, r3, r4⟩
    · have := congrArg List.length r2
      rw [idsL_len] at this
      simp at this
      omega
    · rw [idsL_len] at r1 r4
      exact ⟨r1, r3, r4⟩
  refine runs_call Tryz.func49 rfl ?_
  refine runs_seq (runs_region ?_)
  refine ops_quiet rfl rfl rfl ?_
  refine ops_nil ?_
  refine runs_seq (runs_region ?_)
  refine ops_quiet (v := .agg (axC (.lit (.slice none 0 0)) (.lit (.slice none 0 0)))) (fs := []) rfl rfl rfl ?_
  refine ops_effect (v := .ptr h.next 0) (hp' := ⟨h.objs.set h.next (.cells (axC (.lit (.slice none 0 0)) (.lit (.slice none 0 0))) 87), h.next + 1⟩) rfl rfl rfl rfl (Nat.le_succ _) rfl ?_
  refine ops_quiet rfl rfl rfl ?_
  refine ops_nil ?_
  refine runs_seq (runs_region ?_)
  refine ops_effect (v := .map (h.next + 1)) (hp' := ⟨(h.objs.set h.next (.cells (axC (.lit (.slice none 0 0)) (.lit (.slice none 0 0))) 87)).set (h.next + 1) (.map [] 0), h.next + 2⟩) rfl rfl rfl rfl (Nat.le_succ _) rfl ?_
  refine ops_quiet rfl rfl rfl ?_
  refine ops_nil ?_
  refine runs_seq (runs_seq (runs_region ?_))
  refine ops_quiet (v := vin) (fs := []) rfl rfl rfl ?_
  refine ops_quiet (v := .lit (.int .i64 (Int.ofNat n))) (fs := []) rfl hlen rfl ?_
  refine ops_quiet rfl rfl rfl ?_
  refine ops_nil ?_
  refine runs_block ?_
  refine (new_loop Γ (h.next + 2) n bin vin hn (fun hp => (hvin hp).1) (by omega) (fun hp => by have := (hvin hp).2.1; omega) n 0 (by omega) _ ⟨_, h.next + 2⟩ (.lit (.slice none 0 0)) (.lit (.slice none 0 0)) (h.next + 2) (h.next + 3) rfl rfl rfl rfl rfl ?_ ?_ ?_ (.inl ⟨rfl, rfl⟩) (.inl ⟨rfl, rfl⟩) (Nat.le_refl _) (by omega) (by omega) (Nat.le_refl _)).mono ?_
  · exact (get_ne (by omega)).trans get_same
  · exact get_same
  · exact fun hp => (get_ne (by have := (hvin hp).2.1; omega)).trans ((get_ne (by have := (hvin hp).2.1; omega)).trans (hvin hp).2.2)
  · rintro ⟨ex, fr, hp, v⟩ ⟨he, tm', vi', vl', bi', bl', hfr, f3, hA, hi, hl, hbi, hbl, hkept⟩
    have he : ex = .exit 0 := he
    have hfr : fr = ⟨tm', 53, []⟩ := hfr
    subst he hfr
    have hkn : h.next + 2 ≤ hp.next := hkept.next
    rw [show atEnd 0 ⟨.exit 0, ⟨tm', 53, []⟩, hp, v⟩ = ⟨.normal, ⟨tm', 53, []⟩, hp, v⟩ from rfl]
    have hi' : RowF hp (fun b => h.next ≤ b) bi' 43 2 vi' (idsL n) := rowF_of (lo := h.next + 2) hi fun h1 _ => by omega
    have hl' : RowF hp (fun b => h.next ≤ b) bl' 4 1 vl' (trues n) := rowF_of (lo := h.next + 2) hl fun h1 _ => by omega
    have hlt : h.next < hp.next := by omega
    have hold : ∀ b, b < h.next → hp.objs.get b = h.objs.get b := fun b hb => (hkept.old b (by omega)).trans ((get_ne (by omega)).trans (get_ne (by omega)))
    refine runs_seq (runs_region ?_)
    refine ops_quiet (v := .ptr h.next 0) (fs := []) rfl (by simp only [quiet, f3]; rfl) rfl ?_
    refine ops_quiet rfl rfl rfl ?_
    refine ops_nil ?_
    refine runs_ret ?_
    refine ⟨_, rfl, ?_, ⟨Nat.le_refl _, hlt, vi', vl', bi', bl', hA, hi', hl'⟩, ⟨Nat.le_of_lt hlt, hold⟩⟩
    simp only [ev_set]
    rfl

/-- A number cut to 0 .. 1,000. -/
def clamp (n : Int) : Nat := (min (max n 0) 1000).toNat
theorem clamp_le (n : Int) : clamp n ≤ 1000 := by unfold clamp; omega
theorem clamp_eq (n : Int) : (if (1000 : Int) < (if (0 : Int) > n then 0 else n) then (1000 : Int) else (if (0 : Int) > n then 0 else n)) = Int.ofNat (clamp n) := by
  unfold clamp
  show _ = ((min (max n 0) 1000).toNat : Int)
  split <;> split <;> omega

set_option maxHeartbeats 8000000 in
set_option maxRecDepth 20000 in
theorem fresh_runs (Γ : Glob) (h : Hp) (n : Int) : Runs Tryz.prog Γ (.call 19 [.lit (.int .i64 n)] h) fun r => ∃ A, r.v = .ptr A 0 ∧ NewAx r.hp (fun b => h.next ≤ b) A (clamp n) ∧ Kept h.next h r.hp := by
  refine runs_call Tryz.func19 rfl ?_
  refine runs_seq (runs_region ?_)
  refine ops_quiet rfl rfl rfl ?_
  refine ops_nil ?_
  refine runs_seq (runs_region ?_)
  refine ops_quiet rfl rfl rfl ?_
  refine ops_nil ?_
  refine runs_seq (runs_seq (runs_region ?_))
  refine ops_quiet rfl rfl rfl ?_
  refine ops_quiet (v := .lit (.int .i64 (if (0 : Int) > n then 0 else n))) (fs := []) rfl rfl rfl ?_
  refine ops_quiet (v := .lit (.int .i64 (Int.ofNat (clamp n)))) (fs := []) rfl (by
    show some (SV.lit (.int .i64 (if (1000 : Int) < (if (0 : Int) > n then 0 else n) then (1000 : Int) else (if (0 : Int) > n then 0 else n))), []) = _
    rw [clamp_eq]) rfl ?_
  refine ops_quiet rfl rfl rfl ?_
  refine ops_nil ?_
  refine runs_block ?_
  refine (fresh_loop Γ h.next (clamp n) (clamp_le n) (clamp n) 0 (by omega) _ h (.lit (.slice none 0 0)) h.next rfl rfl rfl (.inl ⟨rfl, rfl⟩) (Nat.le_refl _) (Nat.le_refl _)).mono ?_
  rintro ⟨ex, fr, hp, v⟩ ⟨he, tm', bl', hfr, hrow, hbl, hkept⟩
  have he : ex = .exit 0 := he
  have hfr : fr = ⟨tm', 20, []⟩ := hfr
  subst he hfr
  have hkn : h.next ≤ hp.next := hkept.next
  have hold : ∀ b, b < h.next → hp.objs.get b = h.objs.get b := hkept.old
  obtain ⟨vin, hvin⟩ : ∃ vin, Fr.ev ⟨tm', 20, []⟩ (.tmp 3) = vin := ⟨_, rfl⟩
  rw [hvin] at hrow
  have hrow : RowIs hp h.next bl' 43 2 vin (idsL (clamp n)) := hrow
  rw [show atEnd 0 ⟨.exit 0, ⟨tm', 20, []⟩, hp, v⟩ = ⟨.normal, ⟨tm', 20, []⟩, hp, v⟩ from rfl]
  refine runs_seq (runs_region ?_)
  refine ops_quiet (v := vin) (fs := []) rfl (by simp only [quiet, hvin]) rfl ?_
  refine ops_call (f := 49) (args := [vin]) rfl rfl (by simp [calleeOf, ev_set]; rfl) (clone_none Tryz.func49 rfl) ?_
  refine (axisNew_runs Γ hp vin h.next bl' (clamp n) (clamp_le n) hrow).mono ?_
  rintro ⟨ex2, fr2, hp2, v2⟩ ⟨hv2, hax, hk2⟩
  have hv2 : v2 = .ptr hp.next 0 := hv2
  subst hv2
  have hax : NewAx hp2 (fun b => hp.next ≤ b) hp.next (clamp n) := hax
  have hk2 : Kept hp.next hp hp2 := hk2
  refine ⟨_, rfl, ?_⟩
  refine ops_quiet rfl rfl rfl ?_
  refine ops_nil ?_
  refine runs_ret ?_
  refine ⟨_, rfl, hp.next, ?_, hax.kept (Nat.le_refl _) (fun b hb _ => ⟨Nat.le_trans hkn hb, rfl⟩), ⟨Nat.le_trans hkn hk2.next, fun b hb => (hk2.old b (Nat.lt_of_lt_of_le hb hkn)).trans (hold b hb)⟩⟩
  simp only [ev_set]
  rfl
end Go.Proofs.YtpfagdkpolhopaaGreatDoor.sheetNew
