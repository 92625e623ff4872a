/-
  '(*axis.Axis).At'; by the author of this claim, in the calculus of runs. | 'sheet.New', 'whole' AND 'Cell'; by the author of this claim, in the calculus of runs. | '(*sheet.Sheet).Cell'; by the author of this claim, in the calculus of runs. | '(*cells.Store).Get', '(*sheet.Sheet).Content', 'render.Entry' AND 'Text', where nothing is typed; by the author of this claim, in the calculus of runs. | '(*sheet.Sheet).Content', 'render.Entry' AND 'Text', where nothing is typed; by the author of this claim, in the calculus of runs.
-/
import Derived.Test.YtpfagdkpolhopaaGreatDoorSnB
namespace Go.Proofs.YtpfagdkpolhopaaGreatDoor.sheetNew
open Go Go.Proofs.YtpfagdkpolhopaaGreatDoor.Ev

def zid : List SV := [.lit (.int .i64 0), .lit (.int .i64 0)]
theorem AxAt.wide {h : Hp} {F : Nat → Prop} {A n : Nat} {o : AObj} (ha : AxAt h F A n) : AxAt ⟨h.objs.set h.next o, h.next + 1⟩ (fun b => F b ∧ b ≠ h.next) A n :=
  ha.kept (Nat.le_succ _) fun b hb hlt => ⟨⟨hb, by omega⟩, get_ne (by omega)⟩
theorem store_id {l l' : List SV} (hl : l.length = 2) (hl' : l'.length = 2) (ho : l'.all SV.one = true) : splice l 0 l' = some l' := by
  simp only [splice, Nat.zero_add, hl, hl', Nat.ble_eq_true_of_le (Nat.le_refl _), ho, Bool.and_self, cond_true, List.take_zero, List.nil_append]
  rw [← hl, List.drop_length, List.append_nil]

theorem leave_two {P : Program} {Γ : Glob} {fn : Func} {fr : Fr} {hp : Hp} {v x w : SV} {a b : Tmp} {t : TypeId} {D : Nat} {fs : List Fact} (hm : fr.marks = []) (hr : fn.results.toList = [.cell a t, .tmp b]) (ha : fr.ev (.tmp a) = .ptr D 0) (hl : loadQ P Γ hp t (.ptr D 0) = some (x, fs)) (hb : fr.ev (.tmp b) = w) :
    leave P Γ fn ⟨.ret, fr, hp, v⟩ = some [⟨.ret, fr, hp, .tuple [x, w]⟩] := by
  simp only [leave, hm, shutMarks, hr, resultsQ, ha, hl, hb, Option.map_some]
theorem leave_cell {P : Program} {Γ : Glob} {fn : Func} {fr : Fr} {hp : Hp} {v x : SV} {a : Tmp} {t : TypeId} {D : Nat} {fs : List Fact} (hm : fr.marks = []) (hr : fn.results.toList = [.cell a t]) (ha : fr.ev (.tmp a) = .ptr D 0) (hl : loadQ P Γ hp t (.ptr D 0) = some (x, fs)) :
    leave P Γ fn ⟨.ret, fr, hp, v⟩ = some [⟨.ret, fr, hp, x⟩] := by
  simp only [leave, hm, shutMarks, hr, resultsQ, ha, hl]
set_option maxHeartbeats 8000000 in
set_option maxRecDepth 20000 in
theorem at_neg (Γ : Glob) (h : Hp) (A : Nat) (p : Int) (hp : p < 0) : Runs Tryz.prog Γ (.call 27 [.ptr A 0, .lit (.int .i64 p)] h) fun r => r.v = .tuple [.agg zid, .lit (.bool false)] ∧ r.hp = ⟨(h.objs.set h.next (.cells zid 43)).set h.next (.cells zid 43), h.next + 1⟩ := by
  have hd : decide (p < 0) = true := decide_eq_true hp
  have hD : ((h.objs.set h.next (.cells zid 43)).set h.next (.cells zid 43)).get h.next = some (.cells zid 43) := get_same
  refine runs_call Tryz.func27 rfl ?_
  refine runs_seq (runs_region ?_)
  refine ops_effect (v := .ptr h.next 0) (hp' := ⟨h.objs.set h.next (.cells zid 43), h.next + 1⟩) rfl rfl rfl rfl (Nat.le_succ _) rfl ?_
  refine ops_quiet rfl rfl rfl ?_
  refine ops_nil ?_
  refine runs_seq (runs_seq (runs_region ?_))
  refine ops_quiet (v := .lit (.int .i64 p)) (fs := []) rfl rfl rfl ?_
  refine ops_quiet (v := .lit (.bool true)) (fs := []) rfl (by
    show one (some (.lit (.bool (decide (p < 0))))) = _
    rw [hd]
    rfl) rfl ?_
  refine ops_quiet (v := .lit (.bool true)) (fs := []) rfl rfl rfl ?_
  refine ops_unwanted rfl rfl ?_
  refine ops_unwanted rfl rfl ?_
  refine ops_unwanted rfl rfl ?_
  refine ops_unwanted rfl rfl ?_
  refine ops_quiet (v := .lit (.bool true)) (fs := []) rfl rfl rfl ?_
  refine ops_nil ?_
  refine runs_cond true rfl ?_
  refine runs_seq (runs_region ?_)
  refine ops_quiet (v := .agg zid) (fs := []) rfl rfl rfl ?_
  refine ops_effect (v := .lit undef) (hp' := ⟨(h.objs.set h.next (.cells zid 43)).set h.next (.cells zid 43), h.next + 1⟩) rfl rfl rfl (store_eff (n := 2) (v := .agg zid) (l := zid) rfl rfl rfl rfl get_same rfl) (Nat.le_refl _) rfl ?_
  refine ops_quiet rfl rfl rfl ?_
  refine ops_nil ?_
  refine runs_ret ?_
  have hl := load_all (P := Tryz.prog) (Γ := Γ) (h := ⟨(h.objs.set h.next (.cells zid 43)).set h.next (.cells zid 43), h.next + 1⟩) tyAggId tySizeId hD rfl
  exact ⟨_, leave_two rfl rfl rfl hl rfl, rfl, rfl⟩

set_option maxHeartbeats 8000000 in
set_option maxRecDepth 20000 in
theorem at_pos (Γ : Glob) (h : Hp) (F : Nat → Prop) (A n k : Nat) (hF : ∀ b, h.next ≤ b → F b) (hn : n ≤ 1000) (hax : AxAt h F A n) : Runs Tryz.prog Γ (.call 27 [.ptr A 0, numV k] h) fun r => r.v = .tuple [.agg (if k < n then idC k else zid), .lit (.bool (decide (k < n)))] ∧ AxAt r.hp F A n ∧ Left h r.hp A := by
  have hA := hax.at
  have hAD : h.next ≠ A := by omega
  have hax1 : AxAt ⟨h.objs.set h.next (.cells zid 43), h.next + 1⟩ (fun b => F b ∧ b ≠ h.next) A n := hax.wide
  have hF1 : ∀ b, h.next + 1 ≤ b → F b ∧ b ≠ h.next := fun b hb => ⟨hF b (by omega), by omega⟩
  have hlt : h.next < h.next + 1 := Nat.lt_succ_self _
  have hl0 : Left h ⟨h.objs.set h.next (.cells zid 43), h.next + 1⟩ A := ⟨fun b hb _ => get_ne (by omega), Nat.le_succ _⟩
  refine runs_call Tryz.func27 rfl ?_
  refine runs_seq (runs_region ?_)
  refine ops_effect (v := .ptr h.next 0) (hp' := ⟨h.objs.set h.next (.cells zid 43), h.next + 1⟩) rfl rfl rfl rfl (Nat.le_succ _) rfl ?_
  refine ops_quiet rfl rfl rfl ?_
  refine ops_nil ?_
  refine runs_seq (runs_seq (runs_region ?_))
  refine ops_quiet (v := numV k) (fs := []) rfl rfl rfl ?_
  refine ops_quiet (v := .lit (.bool false)) (fs := []) rfl rfl rfl ?_
  refine ops_quiet (v := .lit (.bool false)) (fs := []) rfl rfl rfl ?_
  refine ops_quiet (v := numV k) (fs := []) rfl rfl rfl ?_
  refine ops_quiet (v := .ptr A 0) (fs := []) rfl rfl rfl ?_
  refine ops_call (f := 8) (args := [.ptr A 0]) rfl rfl rfl rfl ?_
  refine (len_runs Γ ⟨h.objs.set h.next (.cells zid 43), h.next + 1⟩ _ A n hF1 hn hax1).mono ?_
  rintro ⟨ex, fr, hp, v⟩ ⟨hv, hrd, hleft⟩
  have hv : v = numV n := hv
  subst hv
  have hrd : RdyAx hp (fun b => F b ∧ b ≠ h.next) A n := hrd
  have hleft : Left ⟨h.objs.set h.next (.cells zid 43), h.next + 1⟩ hp A := hleft
  have hD : hp.objs.get h.next = some (.cells zid 43) := (hleft.1 h.next hlt hAD).trans get_same
  have hleft2 : Left h hp A := hl0.trans hleft
  have fin : ∀ c : List SV, c.length = 2 → c.all SV.one = true → AxAt ⟨hp.objs.set h.next (.cells c 43), hp.next⟩ F A n ∧ Left h ⟨hp.objs.set h.next (.cells c 43), hp.next⟩ A := fun c _ _ =>
    ⟨.inr (hrd.kept (Nat.le_refl _) fun b hb _ => ⟨hb.1, get_ne hb.2⟩), ⟨fun b hb hne => (get_ne (Nat.ne_of_lt hb)).trans (hleft2.1 b hb hne), hleft2.2⟩⟩
  refine ⟨_, rfl, ?_⟩
  by_cases hkn : k < n
  · rw [if_pos hkn, decide_eq_true hkn]
    have hge : decide ((k : Int) ≥ (n : Int)) = false := decide_eq_false (by omega)
    obtain ⟨_, _, vi, vl, M, va, vv, bv, hA', hv'⟩ := id hrd
    have hvv : vv = .row bv 0 n n bv ∧ hp.objs.get bv = some (.row (idsL n).flatten 43 n bv 2) := by
      rcases hv' with ⟨_, r2⟩ | ⟨r1, _, _, r4⟩
      · have := congrArg List.length r2
        rw [idsL_len] at this
        simp at this
        omega
      · rw [idsL_len] at r1 r4
        exact ⟨r1, r4⟩
    obtain ⟨rfl, hbv⟩ := hvv
    refine ops_quiet (v := .lit (.bool false)) (fs := []) rfl (by
      show one (some (.lit (.bool (decide ((k : Int) ≥ (n : Int)))))) = _
      rw [hge]
      rfl) rfl ?_
    refine ops_quiet (v := .lit (.bool false)) (fs := []) rfl rfl rfl ?_
    refine ops_nil ?_
    refine runs_cond false rfl (runs_skip ?_)
    refine runs_seq (runs_region ?_)
    refine ops_quiet (v := .ptr A 0) (fs := []) rfl rfl rfl ?_
    refine ops_quiet (v := .ptr A 0) (fs := []) rfl rfl rfl ?_
    refine ops_quiet (v := .ptr A 4) (fs := []) rfl rfl rfl ?_
    refine ops_quiet (v := .row bv 0 n n bv) (fs := [.cells A 4 [.row bv 0 n n bv]]) rfl (by simp only [quiet, ev_set]; exact load_cell rfl hA' rfl) rfl ?_
    refine ops_quiet (v := numV k) (fs := []) rfl rfl rfl ?_
    refine ops_quiet (v := .ptr bv (0 + k * 2)) (fs := []) rfl (by simp only [quiet, ev_set]; exact congrArg one (row_index hkn)) rfl ?_
    refine ops_quiet (v := .agg (idC k)) (fs := [.cells bv (0 + k * 2) (idC k)]) rfl (by simp only [quiet, ev_set]; exact row_load hbv hkn) rfl ?_
    refine ops_effect (v := .lit undef) (hp' := ⟨hp.objs.set h.next (.cells (idC k) 43), hp.next⟩) rfl rfl rfl (store_eff (n := 2) (v := .agg (idC k)) (l := zid) rfl rfl rfl rfl hD rfl) (Nat.le_refl _) rfl ?_
    refine ops_quiet rfl rfl rfl ?_
    refine ops_nil ?_
    refine runs_ret ?_
    have hl := load_all (P := Tryz.prog) (Γ := Γ) (h := ⟨hp.objs.set h.next (.cells (idC k) 43), hp.next⟩) tyAggId tySizeId get_same rfl
    exact ⟨_, leave_two rfl rfl rfl hl rfl, rfl, fin (idC k) rfl rfl⟩
  · rw [if_neg hkn, decide_eq_false hkn]
    have hge : decide ((k : Int) ≥ (n : Int)) = true := decide_eq_true (by omega)
    refine ops_quiet (v := .lit (.bool true)) (fs := []) rfl (by
      show one (some (.lit (.bool (decide ((k : Int) ≥ (n : Int)))))) = _
      rw [hge]
      rfl) rfl ?_
    refine ops_quiet (v := .lit (.bool true)) (fs := []) rfl rfl rfl ?_
    refine ops_nil ?_
    refine runs_cond true rfl ?_
    refine runs_seq (runs_region ?_)
    refine ops_quiet (v := .agg zid) (fs := []) rfl rfl rfl ?_
    refine ops_effect (v := .lit undef) (hp' := ⟨hp.objs.set h.next (.cells zid 43), hp.next⟩) rfl rfl rfl (store_eff (n := 2) (v := .agg zid) (l := zid) rfl rfl rfl rfl hD rfl) (Nat.le_refl _) rfl ?_
    refine ops_quiet rfl rfl rfl ?_
    refine ops_nil ?_
    refine runs_ret ?_
    have hl := load_all (P := Tryz.prog) (Γ := Γ) (h := ⟨hp.objs.set h.next (.cells zid 43), hp.next⟩) tyAggId tySizeId get_same rfl
    exact ⟨_, leave_two rfl rfl rfl hl rfl, rfl, fin zid rfl rfl⟩

/-- At, at any place. -/
theorem at_runs (Γ : Glob) (h : Hp) (F : Nat → Prop) (A n : Nat) (p : Int) (hF : ∀ b, h.next ≤ b → F b) (hn : n ≤ 1000) (hax : AxAt h F A n) : Runs Tryz.prog Γ (.call 27 [.ptr A 0, .lit (.int .i64 p)] h) fun r => r.v = .tuple [.agg (atC n p), .lit (.bool (atOk n p))] ∧ AxAt r.hp F A n ∧ Left h r.hp A := by
  have hA := hax.at
  by_cases hp : p < 0
  · have ho : atOk n p = false := by simp [atOk]; omega
    have hc : atC n p = zid := by unfold atC; rw [ho]; rfl
    rw [ho, hc]
    refine (at_neg Γ h A p hp).mono fun r ⟨h1, h2⟩ => ⟨h1, ?_⟩
    rw [h2]
    refine ⟨hax.kept (Nat.le_succ _) fun b hb hlt => ⟨hb, (get_ne (by omega)).trans (get_ne (by omega))⟩, fun b hb _ => (get_ne (by omega)).trans (get_ne (by omega)), Nat.le_succ _⟩
  · obtain ⟨k, rfl⟩ : ∃ k : Nat, p = Int.ofNat k := ⟨p.toNat, by show p = (p.toNat : Int); omega⟩
    have ho : atOk n (Int.ofNat k) = decide (k < n) := by simp [atOk]
    have hc : atC n (Int.ofNat k) = if k < n then idC k else zid := by
      unfold atC
      rw [ho]
      by_cases hkn : k < n
      · rw [if_pos hkn, if_pos (decide_eq_true hkn)]; rfl
      · rw [if_neg hkn, if_neg (by simpa using hkn)]; rfl
    rw [ho, hc]
    exact at_pos Γ h F A n k hF hn hax
end Go.Proofs.YtpfagdkpolhopaaGreatDoor.sheetNew
namespace Go.Proofs.YtpfagdkpolhopaaGreatDoor.sheetNew
open Go Go.Proofs.YtpfagdkpolhopaaGreatDoor.Ev

def shC (A1 A2 C N : Nat) : List SV := [.ptr A1 0, .ptr A2 0, .ptr C 0, .ptr N 0]
/-- Blocks that an axis of a sheet does not have. -/
def Off (a b c d : Nat) (k : Nat) : Prop := k ≠ a ∧ k ≠ b ∧ k ≠ c ∧ k ≠ d
/-- A sheet of n rows and m columns in which nothing is typed. -/
structure ShAt (h : Hp) (S A1 A2 C N n m : Nat) : Prop where
  s : h.objs.get S = some (.cells (shC A1 A2 C N) 40)
  c : h.objs.get C = some (.cells [.lit (.map none)] 115)
  sn : S < h.next
  cn : C < h.next
  nn : N < h.next
  a1 : AxAt h (Off S C N A2) A1 n
  a2 : AxAt h (Off S C N A1) A2 m
  d1 : Off S C N A2 A1
  d2 : Off S C N A1 A2
theorem ShAt.left1 {h h' : Hp} {S A1 A2 C N n m : Nat} (hs : ShAt h S A1 A2 C N n m) (hl : Left h h' A1) (ha : AxAt h' (Off S C N A2) A1 n) : ShAt h' S A1 A2 C N n m := by
  obtain ⟨b1, b2, b3, b4⟩ := hs.d1
  exact ⟨(hl.1 S hs.sn b1.symm).trans hs.s, (hl.1 C hs.cn b2.symm).trans hs.c, Nat.lt_of_lt_of_le hs.sn hl.2, Nat.lt_of_lt_of_le hs.cn hl.2, Nat.lt_of_lt_of_le hs.nn hl.2, ha, hs.a2.kept hl.2 fun b hb hlt => ⟨hb, hl.1 b hlt hb.2.2.2⟩, hs.d1, hs.d2⟩
theorem ShAt.left2 {h h' : Hp} {S A1 A2 C N n m : Nat} (hs : ShAt h S A1 A2 C N n m) (hl : Left h h' A2) (ha : AxAt h' (Off S C N A1) A2 m) : ShAt h' S A1 A2 C N n m := by
  obtain ⟨b1, b2, b3, b4⟩ := hs.d2
  exact ⟨(hl.1 S hs.sn b1.symm).trans hs.s, (hl.1 C hs.cn b2.symm).trans hs.c, Nat.lt_of_lt_of_le hs.sn hl.2, Nat.lt_of_lt_of_le hs.cn hl.2, Nat.lt_of_lt_of_le hs.nn hl.2, hs.a1.kept hl.2 fun b hb hlt => ⟨hb, hl.1 b hlt hb.2.2.2⟩, ha, hs.d1, hs.d2⟩
/-- What a call on a sheet leaves. -/
def Left2 (h h' : Hp) (A1 A2 : Nat) : Prop := (∀ b, b < h.next → b ≠ A1 → b ≠ A2 → h'.objs.get b = h.objs.get b) ∧ h.next ≤ h'.next
theorem Left2.refl (h : Hp) (A1 A2 : Nat) : Left2 h h A1 A2 := ⟨fun _ _ _ _ => rfl, Nat.le_refl _⟩
theorem Left2.trans {a b c : Hp} {A1 A2 : Nat} (h : Left2 a b A1 A2) (h' : Left2 b c A1 A2) : Left2 a c A1 A2 := ⟨fun k hk h1 h2 => (h'.1 k (Nat.lt_of_lt_of_le hk h.2) h1 h2).trans (h.1 k hk h1 h2), Nat.le_trans h.2 h'.2⟩
theorem Left.one {h h' : Hp} {A1 : Nat} (hl : Left h h' A1) (A2 : Nat) : Left2 h h' A1 A2 := ⟨fun b hb h1 _ => hl.1 b hb h1, hl.2⟩
theorem Left.two {h h' : Hp} {A2 : Nat} (hl : Left h h' A2) (A1 : Nat) : Left2 h h' A1 A2 := ⟨fun b hb _ h2 => hl.1 b hb h2, hl.2⟩
/-- A new block of one's own. -/
theorem ShAt.new {h : Hp} {S A1 A2 C N n m : Nat} (hs : ShAt h S A1 A2 C N n m) {h' : Hp} (hn : h.next ≤ h'.next) (hg : ∀ b, b < h.next → h'.objs.get b = h.objs.get b) : ShAt h' S A1 A2 C N n m :=
  ⟨(hg S hs.sn).trans hs.s, (hg C hs.cn).trans hs.c, Nat.lt_of_lt_of_le hs.sn hn, Nat.lt_of_lt_of_le hs.cn hn, Nat.lt_of_lt_of_le hs.nn hn, hs.a1.kept hn fun b hb hlt => ⟨hb, hg b hlt⟩, hs.a2.kept hn fun b hb hlt => ⟨hb, hg b hlt⟩, hs.d1, hs.d2⟩

set_option maxHeartbeats 8000000 in
set_option maxRecDepth 20000 in
theorem whole_runs (Γ : Glob) (h : Hp) (S A1 A2 C N : Nat) (hS : h.objs.get S = some (.cells (shC A1 A2 C N) 40)) : Runs Tryz.prog Γ (.call 26 [.ptr S 0] h) fun r => r.v = .lit (.bool true) ∧ r.hp = h := by
  refine runs_call Tryz.func26 rfl ?_
  refine runs_seq (runs_region ?_)
  refine ops_quiet rfl rfl rfl ?_
  refine ops_nil ?_
  refine runs_seq (runs_region ?_)
  refine ops_quiet (v := .ptr S 0) (fs := []) rfl rfl rfl ?_
  refine ops_quiet (v := .lit (.bool true)) (fs := []) rfl rfl rfl ?_
  refine ops_quiet (v := .lit (.bool true)) (fs := []) rfl rfl rfl ?_
  refine ops_quiet (v := .ptr S 0) (fs := []) rfl rfl rfl ?_
  refine ops_quiet (v := .ptr S 0) (fs := []) rfl rfl rfl ?_
  refine ops_quiet (v := .ptr S 0) (fs := []) rfl rfl rfl ?_
  refine ops_quiet (v := .ptr A1 0) (fs := [.cells S 0 [.ptr A1 0]]) rfl (by simp only [quiet, ev_set]; exact load_cell rfl hS rfl) rfl ?_
  refine ops_quiet (v := .lit (.bool true)) (fs := []) rfl rfl rfl ?_
  refine ops_quiet (v := .lit (.bool true)) (fs := []) rfl rfl rfl ?_
  refine ops_quiet (v := .lit (.bool true)) (fs := []) rfl rfl rfl ?_
  refine ops_quiet (v := .ptr S 0) (fs := []) rfl rfl rfl ?_
  refine ops_quiet (v := .ptr S 0) (fs := []) rfl rfl rfl ?_
  refine ops_quiet (v := .ptr S 1) (fs := []) rfl rfl rfl ?_
  refine ops_quiet (v := .ptr A2 0) (fs := [.cells S 1 [.ptr A2 0]]) rfl (by simp only [quiet, ev_set]; exact load_cell rfl hS rfl) rfl ?_
  refine ops_quiet (v := .lit (.bool true)) (fs := []) rfl rfl rfl ?_
  refine ops_quiet (v := .lit (.bool true)) (fs := []) rfl rfl rfl ?_
  refine ops_quiet (v := .lit (.bool true)) (fs := []) rfl rfl rfl ?_
  refine ops_quiet (v := .ptr S 0) (fs := []) rfl rfl rfl ?_
  refine ops_quiet (v := .ptr S 0) (fs := []) rfl rfl rfl ?_
  refine ops_quiet (v := .ptr S 2) (fs := []) rfl rfl rfl ?_
  refine ops_quiet (v := .ptr C 0) (fs := [.cells S 2 [.ptr C 0]]) rfl (by simp only [quiet, ev_set]; exact load_cell rfl hS rfl) rfl ?_
  refine ops_quiet (v := .lit (.bool true)) (fs := []) rfl rfl rfl ?_
  refine ops_quiet (v := .lit (.bool true)) (fs := []) rfl rfl rfl ?_
  refine ops_quiet (v := .lit (.bool true)) (fs := []) rfl rfl rfl ?_
  refine ops_quiet (v := .ptr S 0) (fs := []) rfl rfl rfl ?_
  refine ops_quiet (v := .ptr S 0) (fs := []) rfl rfl rfl ?_
  refine ops_quiet (v := .ptr S 3) (fs := []) rfl rfl rfl ?_
  refine ops_quiet (v := .ptr N 0) (fs := [.cells S 3 [.ptr N 0]]) rfl (by simp only [quiet, ev_set]; exact load_cell rfl hS rfl) rfl ?_
  refine ops_quiet (v := .lit (.bool true)) (fs := []) rfl rfl rfl ?_
  refine ops_quiet (v := .lit (.bool true)) (fs := []) rfl rfl rfl ?_
  refine ops_quiet rfl rfl rfl ?_
  refine ops_nil ?_
  refine runs_ret ?_
  exact ⟨_, rfl, rfl, rfl⟩

set_option maxHeartbeats 8000000 in
set_option maxRecDepth 20000 in
theorem small_new (Γ : Glob) (h : Hp) : (Runs Tryz.prog Γ (.call 20 [] h) fun r => r.v = .ptr h.next 0 ∧ r.hp = ⟨h.objs.set h.next (.cells [.lit (.map none)] 115), h.next + 1⟩) ∧
    (Runs Tryz.prog Γ (.call 21 [] h) fun r => ∃ ob, r.v = .ptr h.next 0 ∧ r.hp = ⟨h.objs.set h.next ob, h.next + 1⟩) := by
  constructor
  · refine runs_call Tryz.func20 rfl ?_
    refine runs_seq (runs_region ?_)
    refine ops_quiet rfl rfl rfl ?_
    refine ops_nil ?_
    refine runs_seq (runs_region ?_)
    refine ops_quiet rfl rfl rfl ?_
    refine ops_effect (v := .ptr h.next 0) (hp' := ⟨h.objs.set h.next (.cells [.lit (.map none)] 115), h.next + 1⟩) rfl rfl rfl rfl (Nat.le_succ _) rfl ?_
    refine ops_quiet rfl rfl rfl ?_
    refine ops_nil ?_
    refine runs_ret ?_
    exact ⟨_, rfl, rfl, rfl⟩
  · refine runs_call Tryz.func21 rfl ?_
    refine runs_seq (runs_region ?_)
    refine ops_quiet rfl rfl rfl ?_
    refine ops_nil ?_
    refine runs_seq (runs_region ?_)
    refine ops_quiet rfl rfl rfl ?_
    refine ops_effect (v := .ptr h.next 0) (hp' := ⟨h.objs.set h.next _, h.next + 1⟩) rfl rfl rfl rfl (Nat.le_succ _) rfl ?_
    refine ops_quiet rfl rfl rfl ?_
    refine ops_nil ?_
    refine runs_ret ?_
    exact ⟨_, rfl, _, rfl, rfl⟩

theorem sheet_made {h h1 h2 h3 h4 : Hp} {A1 A2 n m : Nat} {ob : AObj} (hax1 : NewAx h1 (fun b => h.next ≤ b) A1 n) (hk1 : Kept h.next h h1) (hax2 : NewAx h2 (fun b => h1.next ≤ b) A2 m) (hk2 : Kept h1.next h1 h2)
    (hh3 : h3 = ⟨h2.objs.set h2.next (.cells [.lit (.map none)] 115), h2.next + 1⟩) (hh4 : h4 = ⟨h3.objs.set h3.next ob, h3.next + 1⟩) :
    h.next ≤ h4.next ∧ ShAt ⟨h4.objs.set h4.next (.cells (shC A1 A2 h2.next h3.next) 40), h4.next + 1⟩ h4.next A1 A2 h2.next h3.next n m ∧ Kept h.next h ⟨h4.objs.set h4.next (.cells (shC A1 A2 h2.next h3.next) 40), h4.next + 1⟩ := by
  have n3 : h3.next = h2.next + 1 := by rw [hh3]
  have n4 : h4.next = h2.next + 2 := by rw [hh4]; show h3.next + 1 = _; omega
  have g : ∀ b, b < h2.next → (Hp.mk (h4.objs.set h4.next (.cells (shC A1 A2 h2.next h3.next) 40)) (h4.next + 1)).objs.get b = h2.objs.get b := fun b hb => by
    refine (get_ne (by omega)).trans ?_
    rw [hh4]
    refine (get_ne (by omega)).trans ?_
    rw [hh3]
    exact get_ne (by omega)
  have k1 := hk1.next
  have k2 := hk2.next
  have a1 := hax1.2.1
  have a2 := hax2.2.1
  have b1 : h.next ≤ A1 := hax1.1
  have b2 : h1.next ≤ A2 := hax2.1
  refine ⟨by omega, ⟨get_same, ?_, Nat.lt_succ_self _, ?_, ?_, .inl ?_, .inl ?_, ?_, ?_⟩, ⟨?_, fun b hb => (g b (by omega)).trans ((hk2.old b (by omega)).trans (hk1.old b hb))⟩⟩
  · refine (get_ne (by omega)).trans ?_
    rw [hh4]
    refine (get_ne (by omega)).trans ?_
    rw [hh3]
    exact get_same
  · show h2.next < h4.next + 1; omega
  · show h3.next < h4.next + 1; omega
  · exact hax1.kept (by show h1.next ≤ h4.next + 1; omega) fun b _ hlt => ⟨⟨by omega, by omega, by omega, by omega⟩, (g b (by omega)).trans (hk2.old b hlt)⟩
  · exact hax2.kept (by show h2.next ≤ h4.next + 1; omega) fun b hb hlt => ⟨⟨by omega, by omega, by omega, by omega⟩, g b hlt⟩
  · exact ⟨by omega, by omega, by omega, by omega⟩
  · exact ⟨by omega, by omega, by omega, by omega⟩
  · show h.next ≤ h4.next + 1; omega

set_option maxHeartbeats 8000000 in
set_option maxRecDepth 20000 in
theorem sheetNew_runs (Γ : Glob) (h : Hp) (rows cols : Int) : Runs Tryz.prog Γ (.call 5 [.lit (.int .i64 rows), .lit (.int .i64 cols)] h) fun r => ∃ S A1 A2 C N, r.v = .ptr S 0 ∧ h.next ≤ S ∧ ShAt r.hp S A1 A2 C N (clamp rows) (clamp cols) ∧ Kept h.next h r.hp := by
  refine runs_call Tryz.func5 rfl ?_
  refine runs_seq (runs_region ?_)
  refine ops_quiet rfl rfl rfl ?_
  refine ops_nil ?_
  refine runs_seq (runs_region ?_)
  refine ops_quiet (v := .lit (.int .i64 rows)) (fs := []) rfl rfl rfl ?_
  refine ops_call (f := 19) (args := [.lit (.int .i64 rows)]) rfl rfl rfl rfl ?_
  refine (fresh_runs Γ h rows).mono ?_
  rintro ⟨ex1, fr1, h1, v1⟩ ⟨A1, hv1, hax1, hk1⟩
  have hv1 : v1 = .ptr A1 0 := hv1
  subst hv1
  have hax1 : NewAx h1 (fun b => h.next ≤ b) A1 (clamp rows) := hax1
  have hk1 : Kept h.next h h1 := hk1
  refine ⟨_, rfl, ?_⟩
  refine ops_quiet (v := .lit (.int .i64 cols)) (fs := []) rfl rfl rfl ?_
  refine ops_call (f := 19) (args := [.lit (.int .i64 cols)]) rfl rfl rfl rfl ?_
  refine (fresh_runs Γ h1 cols).mono ?_
  rintro ⟨ex2, fr2, h2, v2⟩ ⟨A2, hv2, hax2, hk2⟩
  have hv2 : v2 = .ptr A2 0 := hv2
  subst hv2
  have hax2 : NewAx h2 (fun b => h1.next ≤ b) A2 (clamp cols) := hax2
  have hk2 : Kept h1.next h1 h2 := hk2
  refine ⟨_, rfl, ?_⟩
  refine ops_call (f := 20) (args := []) rfl rfl rfl rfl ?_
  refine (small_new Γ h2).1.mono ?_
  rintro ⟨ex3, fr3, h3, v3⟩ ⟨hv3, hh3⟩
  have hv3 : v3 = .ptr h2.next 0 := hv3
  have hh3 : h3 = ⟨h2.objs.set h2.next (.cells [.lit (.map none)] 115), h2.next + 1⟩ := hh3
  subst hv3
  refine ⟨_, rfl, ?_⟩
  refine ops_call (f := 21) (args := []) rfl rfl rfl rfl ?_
  refine (small_new Γ h3).2.mono ?_
  rintro ⟨ex4, fr4, h4, v4⟩ ⟨ob, hv4, hh4⟩
  have hv4 : v4 = .ptr h3.next 0 := hv4
  have hh4 : h4 = ⟨h3.objs.set h3.next ob, h3.next + 1⟩ := hh4
  subst hv4
  refine ⟨_, rfl, ?_⟩
  refine ops_quiet (v := .agg (shC A1 A2 h2.next h3.next)) (fs := []) rfl rfl rfl ?_
  refine ops_effect (v := .ptr h4.next 0) (hp' := ⟨h4.objs.set h4.next (.cells (shC A1 A2 h2.next h3.next) 40), h4.next + 1⟩) rfl rfl rfl rfl (Nat.le_succ _) rfl ?_
  refine ops_quiet rfl rfl rfl ?_
  refine ops_nil ?_
  refine runs_ret ?_
  refine ⟨_, rfl, h4.next, A1, A2, h2.next, h3.next, rfl, ?_⟩
  exact sheet_made hax1 hk1 hax2 hk2 hh3 hh4
end Go.Proofs.YtpfagdkpolhopaaGreatDoor.sheetNew
namespace Go.Proofs.YtpfagdkpolhopaaGreatDoor.sheetNew
open Go Go.Proofs.YtpfagdkpolhopaaGreatDoor.Ev

theorem RowF.store {h : Hp} {F : Nat → Prop} {bl D : Nat} {e e' : TypeId} {size : Nat} {v : SV} {l : List (List SV)} {c c' : List SV} (hr : RowF h F bl e size v l) (hD : h.objs.get D = some (.cells c e')) : RowF ⟨h.objs.set D (.cells c' e'), h.next⟩ F bl e size v l := by
  rcases hr with hr | ⟨r1, r2, r3, r4⟩
  · exact .inl hr
  · refine .inr ⟨r1, r2, r3, (get_ne fun e => ?_).trans r4⟩
    rw [e, hD] at r4
    cases r4
theorem AxAt.store {h : Hp} {F : Nat → Prop} {A n D : Nat} {e : TypeId} {c c' : List SV} (ha : AxAt h F A n) (hD : h.objs.get D = some (.cells c e)) (hne : D ≠ A) : AxAt ⟨h.objs.set D (.cells c' e), h.next⟩ F A n := by
  rcases ha with ⟨a1, a2, vi, vl, bi, bl, a3, a4, a5⟩ | ⟨a1, a2, vi, vl, M, va, vv, bv, a3, a4⟩
  · exact .inl ⟨a1, a2, vi, vl, bi, bl, (get_ne hne.symm).trans a3, a4.store hD, a5.store hD⟩
  · exact .inr ⟨a1, a2, vi, vl, M, va, vv, bv, (get_ne hne.symm).trans a3, a4.store hD⟩
theorem ShAt.store {h : Hp} {S A1 A2 C N n m D : Nat} {e : TypeId} {c c' : List SV} (hs : ShAt h S A1 A2 C N n m) (hD : h.objs.get D = some (.cells c e)) (h1 : D ≠ S) (h2 : D ≠ C) (h3 : D ≠ A1) (h4 : D ≠ A2) : ShAt ⟨h.objs.set D (.cells c' e), h.next⟩ S A1 A2 C N n m :=
  ⟨(get_ne h1.symm).trans hs.s, (get_ne h2.symm).trans hs.c, hs.sn, hs.cn, hs.nn, hs.a1.store hD h3, hs.a2.store hD h4, hs.d1, hs.d2⟩
theorem ShAt.off1 {h : Hp} {S A1 A2 C N n m : Nat} (hs : ShAt h S A1 A2 C N n m) (b : Nat) (hb : h.next ≤ b) : Off S C N A2 b := by
  have h1 := hs.sn
  have h2 := hs.cn
  have h3 := hs.nn
  have h4 := hs.a2.at
  exact ⟨by omega, by omega, by omega, by omega⟩
theorem ShAt.off2 {h : Hp} {S A1 A2 C N n m : Nat} (hs : ShAt h S A1 A2 C N n m) (b : Nat) (hb : h.next ≤ b) : Off S C N A1 b := by
  have h1 := hs.sn
  have h2 := hs.cn
  have h3 := hs.nn
  have h4 := hs.a1.at
  exact ⟨by omega, by omega, by omega, by omega⟩
theorem ShAt.lt {h : Hp} {S A1 A2 C N n m : Nat} (hs : ShAt h S A1 A2 C N n m) (D : Nat) (hD : h.next ≤ D) : D ≠ S ∧ D ≠ C ∧ D ≠ A1 ∧ D ≠ A2 := by
  have h1 := hs.sn
  have h2 := hs.cn
  have h3 := hs.a1.at
  have h4 := hs.a2.at
  exact ⟨by omega, by omega, by omega, by omega⟩

def zcell : List SV := zid ++ zid
def cellOk (n m : Nat) (p q : Int) : Bool := atOk n p && atOk m q
def cellC (n m : Nat) (p q : Int) : List SV := if cellOk n m p q then atC n p ++ atC m q else zcell
set_option maxRecDepth 10000 in
theorem tyAggCell : tyAgg Tryz.prog 45 = some true := rfl
set_option maxRecDepth 10000 in
theorem tySizeCell : tySize Tryz.prog 45 = some 4 := rfl
theorem two_of {c : List SV} (h : c.length = 2) (ho : c.all SV.one = true) : ∃ a b, c = [a, b] ∧ SV.one a = true ∧ SV.one b = true := by
  match c, h with
  | [a, b], _ => exact ⟨a, b, rfl, by simpa using ho⟩

/-- The body of Cell, behind the row's answer. -/
noncomputable def cellEnd : Code := seqR (seqR (seqR (seqR (bodyOf Tryz.f9))))

theorem four_one {x1 x2 y1 y2 : SV} (h1 : ([x1, x2] : List SV).all SV.one = true) (h2 : ([y1, y2] : List SV).all SV.one = true) : SV.one x1 = true ∧ SV.one x2 = true ∧ SV.one y1 = true ∧ SV.one y2 = true := by
  simp only [List.all_cons, List.all_nil, Bool.and_true, Bool.and_eq_true] at h1 h2
  exact ⟨h1.1, h1.2, h2.1, h2.2⟩
set_option maxRecDepth 10000 in
theorem build_cell {x1 x2 y1 y2 : SV} (h1 : ([x1, x2] : List SV).all SV.one = true) (h2 : ([y1, y2] : List SV).all SV.one = true) : buildQ Tryz.prog 45 [(0, .agg [x1, x2]), (1, .agg [y1, y2])] = some (.agg [x1, x2, y1, y2]) := by
  obtain ⟨a, b, c, d⟩ := four_one h1 h2
  obtain ⟨fs, places, z, hz, hu, hp, hpl, hzc⟩ : ∃ fs places z, tyZero Tryz.prog 45 = some z ∧ tyU Tryz.prog 45 = some (.struct fs) ∧ sizesQ Tryz.prog fs.toList = some places ∧ places = [(0, 2), (2, 2)] ∧ SV.cells (.lit z) = zcell := ⟨_, _, _, rfl, rfl, rfl, rfl, rfl⟩
  simp only [buildQ, hz, hu, hp]
  rw [hpl, hzc]
  have s1 : splice zcell 0 [x1, x2] = some [x1, x2, .lit (.int .i64 0), .lit (.int .i64 0)] := by
    simp only [splice, h1]; rfl
  have s2 : splice [x1, x2, .lit (.int .i64 0), .lit (.int .i64 0)] 2 [y1, y2] = some [x1, x2, y1, y2] := by
    simp only [splice, h2]; rfl
  show ((bif Nat.beq [x1, x2].length 2 then (match splice zcell 0 [x1, x2] with
      | some l' => fillQ (fun i => [(0, 2), (2, 2)][i]?) l' [(1, SV.agg [y1, y2])]
      | none => none) else none).map SV.agg) = _
  rw [s1]
  show ((bif Nat.beq [y1, y2].length 2 then (match splice [x1, x2, .lit (.int .i64 0), .lit (.int .i64 0)] 2 [y1, y2] with
      | some l' => fillQ (fun i => [(0, 2), (2, 2)][i]?) l' []
      | none => none) else none).map SV.agg) = _
  rw [s2]
  rfl
theorem store_four {x1 x2 y1 y2 : SV} (h1 : ([x1, x2] : List SV).all SV.one = true) (h2 : ([y1, y2] : List SV).all SV.one = true) : splice zcell 0 [x1, x2, y1, y2] = some [x1, x2, y1, y2] := by
  obtain ⟨a, b, c, d⟩ := four_one h1 h2
  simp only [splice, List.all_cons, List.all_nil, a, b, c, d, Bool.and_self]
  rfl

set_option maxHeartbeats 8000000 in
set_option maxRecDepth 20000 in
theorem cell_second (Γ : Glob) (h h3 : Hp) (S A1 A2 C N n m X : Nat) (q : Int) (x1 x2 y1 y2 : SV) (o2 : Bool) (tm : T SV) (hm : m ≤ 1000) (hc2 : atC m q = [y1, y2]) (ho2 : atOk m q = o2) (ho12 : ([x1, x2] : List SV).all SV.one = true) (ho34 : ([y1, y2] : List SV).all SV.one = true)
    (hs3 : ShAt h3 S A1 A2 C N n m) (hD3 : h3.objs.get h.next = some (.cells zcell 45)) (hX3 : h3.objs.get X = some (.cells [x1, x2] 43)) (hX1 : h.next + 1 ≤ X) (hX2 : X < h3.next) (hL3 : Left2 h h3 A1 A2)
    (fin : ∀ (h' : Hp) (c : List SV), ShAt h' S A1 A2 C N n m → h'.objs.get h.next = some (.cells zcell 45) → Left2 h h' A1 A2 → ShAt ⟨h'.objs.set h.next (.cells c 45), h'.next⟩ S A1 A2 C N n m ∧ Left2 h ⟨h'.objs.set h.next (.cells c 45), h'.next⟩ A1 A2)
    (e0 : Fr.ev ⟨tm, 42, []⟩ (.tmp 0) = .ptr S 0) (e2 : Fr.ev ⟨tm, 42, []⟩ (.tmp 2) = .lit (.int .i64 q)) (e6 : Fr.ev ⟨tm, 42, []⟩ (.tmp 6) = .ptr h.next 0) (e8 : Fr.ev ⟨tm, 42, []⟩ (.tmp 8) = .ptr X 0) :
    Runs Tryz.prog Γ (.code cellEnd none ⟨tm, 42, []⟩ h3) (fun o => ∃ r, leave Tryz.prog Γ Tryz.f9 o = some [r] ∧ r.v = .tuple [.agg (if (true && o2) = true then [x1, x2] ++ [y1, y2] else zcell), .lit (.bool (true && o2))] ∧ ShAt r.hp S A1 A2 C N n m ∧ Left2 h r.hp A1 A2) := by
  have hat2 := at_runs Γ h3 _ A2 m q hs3.off2 hm hs3.a2
  rw [hc2, ho2] at hat2
  have nA : h.next ≠ A2 ∧ X ≠ A2 ∧ h.next < h3.next := by
    have k1 := hL3.2
    have k2 := hs3.d2
    have k3 : h.next ≠ A2 := fun e => by
      have := hs3.a2
      rw [← e] at this
      rcases this with ⟨_, _, _, _, _, _, g, _⟩ | ⟨_, _, _, _, _, _, _, _, g, _⟩ <;> (rw [hD3] at g; cases g)
    have k4 : X ≠ A2 := fun e => by
      have := hs3.a2
      rw [← e] at this
      rcases this with ⟨_, _, _, _, _, _, g, _⟩ | ⟨_, _, _, _, _, _, _, _, g, _⟩ <;> (rw [hX3] at g; cases g)
    exact ⟨k3, k4, by omega⟩
  obtain ⟨nA1, nA2, nA3⟩ := nA
  refine runs_seq (runs_region ?_)
  refine ops_quiet (v := .ptr S 0) (fs := []) rfl (by simp only [quiet, e0]) rfl ?_
  refine ops_quiet (v := .ptr S 0) (fs := []) rfl (by simp only [quiet, ev_set]; rfl) rfl ?_
  refine ops_quiet (v := .ptr S 1) (fs := []) rfl (by simp only [quiet, ev_set]; rfl) rfl ?_
  refine ops_quiet (v := .ptr A2 0) (fs := [.cells S 1 [.ptr A2 0]]) rfl (by simp only [quiet, ev_set]; exact load_cell rfl hs3.s rfl) rfl ?_
  refine ops_quiet (v := .lit (.int .i64 q)) (fs := []) rfl (by simp only [quiet, ev_set, e2]; rfl) rfl ?_
  refine ops_call (f := 27) (args := [.ptr A2 0, .lit (.int .i64 q)]) rfl rfl (by simp [calleeOf, ev_set]; rfl) rfl ?_
  refine hat2.mono ?_
  rintro ⟨ex, fr, h4, v⟩ ⟨hv, hax, hl⟩
  have hv : v = .tuple [.agg [y1, y2], .lit (.bool o2)] := hv
  subst hv
  have hl : Left h3 h4 A2 := hl
  have hs4 : ShAt h4 S A1 A2 C N n m := hs3.left2 hl hax
  have hD4 : h4.objs.get h.next = some (.cells zcell 45) := (hl.1 _ nA3 nA1).trans hD3
  have hX4 : h4.objs.get X = some (.cells [x1, x2] 43) := (hl.1 _ hX2 nA2).trans hX3
  have hL4 : Left2 h h4 A1 A2 := hL3.trans (hl.two A1)
  have hn4 : h3.next ≤ h4.next := hl.2
  have hs5 : ShAt ⟨(h4.objs.set h4.next (.cells zid 43)).set h4.next (.cells [y1, y2] 43), h4.next + 1⟩ S A1 A2 C N n m := hs4.new (Nat.le_succ _) fun b hb => (get_ne (Nat.ne_of_lt hb)).trans (get_ne (Nat.ne_of_lt hb))
  have ne1 : h.next ≠ h4.next := by omega
  have ne2 : X ≠ h4.next := by omega
  have hD5 : ((h4.objs.set h4.next (.cells zid 43)).set h4.next (.cells [y1, y2] 43)).get h.next = some (.cells zcell 45) := (get_ne ne1).trans ((get_ne ne1).trans hD4)
  have hX5 : ((h4.objs.set h4.next (.cells zid 43)).set h4.next (.cells [y1, y2] 43)).get X = some (.cells [x1, x2] 43) := (get_ne ne2).trans ((get_ne ne2).trans hX4)
  have hL5 : Left2 h ⟨(h4.objs.set h4.next (.cells zid 43)).set h4.next (.cells [y1, y2] 43), h4.next + 1⟩ A1 A2 := hL4.trans ⟨fun b hb _ _ => (get_ne (Nat.ne_of_lt hb)).trans (get_ne (Nat.ne_of_lt hb)), Nat.le_succ _⟩
  refine ⟨_, rfl, ?_⟩
  refine ops_quiet (v := .tuple [.agg [y1, y2], .lit (.bool o2)]) (fs := []) rfl (by simp only [quiet, ev_set]; rfl) rfl ?_
  refine ops_quiet (v := .agg [y1, y2]) (fs := []) rfl (by simp only [quiet, ev_set]; rfl) rfl ?_
  refine ops_quiet (v := .lit (.bool o2)) (fs := []) rfl (by simp only [quiet, ev_set]; rfl) rfl ?_
  refine ops_effect (v := .ptr h4.next 0) (hp' := ⟨h4.objs.set h4.next (.cells zid 43), h4.next + 1⟩) rfl rfl rfl rfl (Nat.le_succ _) rfl ?_
  refine ops_effect (v := .lit undef) (hp' := ⟨(h4.objs.set h4.next (.cells zid 43)).set h4.next (.cells [y1, y2] 43), h4.next + 1⟩) rfl rfl rfl (store_eff (n := 2) (v := .agg [y1, y2]) (l := zid) rfl (by simp only [ev_set]; rfl) (by simp only [ev_set]; rfl) rfl get_same (store_id rfl rfl ho34)) (Nat.le_refl _) rfl ?_
  refine ops_quiet (v := .lit (.bool o2)) (fs := []) rfl (by simp only [quiet, ev_set]; rfl) rfl ?_
  refine ops_nil ?_
  refine runs_seq (runs_seq (runs_region ?_))
  refine ops_quiet (v := .lit (.bool o2)) (fs := []) rfl (by simp only [quiet, ev_set]; rfl) rfl ?_
  refine ops_quiet (v := .lit (.bool !o2)) (fs := []) rfl (by simp only [quiet, ev_set]; rfl) rfl ?_
  refine ops_nil ?_
  cases o2 with
  | false =>
    refine runs_cond true (by simp [ev_set]) ?_
    refine runs_seq (runs_region ?_)
    refine ops_quiet (v := .agg zcell) (fs := []) rfl rfl rfl ?_
    refine ops_effect (v := .lit undef) (hp' := ⟨((h4.objs.set h4.next (.cells zid 43)).set h4.next (.cells [y1, y2] 43)).set h.next (.cells zcell 45), h4.next + 1⟩) rfl rfl rfl (store_eff (n := 4) (v := .agg zcell) (l := zcell) rfl (by simp only [ev_set]; exact e6) (by simp only [ev_set]; rfl) rfl hD5 rfl) (Nat.le_refl _) rfl ?_
    refine ops_quiet rfl rfl rfl ?_
    refine ops_nil ?_
    refine runs_ret ?_
    have hl := load_all (P := Tryz.prog) (Γ := Γ) (h := ⟨((h4.objs.set h4.next (.cells zid 43)).set h4.next (.cells [y1, y2] 43)).set h.next (.cells zcell 45), h4.next + 1⟩) tyAggCell tySizeCell get_same rfl
    exact ⟨_, leave_two rfl rfl (by simp only [ev_set]; exact e6) hl (by simp only [ev_set]; rfl), rfl, fin _ zcell hs5 hD5 hL5⟩
  | true =>
    refine runs_cond false (by simp [ev_set]) (runs_skip ?_)
    have hl1 := load_all (P := Tryz.prog) (Γ := Γ) (h := ⟨(h4.objs.set h4.next (.cells zid 43)).set h4.next (.cells [y1, y2] 43), h4.next + 1⟩) tyAggId tySizeId hX5 rfl
    have hl2 := load_all (P := Tryz.prog) (Γ := Γ) (h := ⟨(h4.objs.set h4.next (.cells zid 43)).set h4.next (.cells [y1, y2] 43), h4.next + 1⟩) tyAggId tySizeId get_same rfl
    refine runs_seq (runs_region ?_)
    refine ops_quiet (v := .agg [x1, x2]) (fs := [.cells X 0 [x1, x2]]) rfl (by simp only [quiet, ev_set, e8]; exact hl1) rfl ?_
    refine ops_quiet (v := .agg [y1, y2]) (fs := [.cells h4.next 0 [y1, y2]]) rfl (by simp only [quiet, ev_set]; exact hl2) rfl ?_
    refine ops_quiet (v := .agg [x1, x2, y1, y2]) (fs := []) rfl (by simp only [quiet]; exact congrArg one (build_cell ho12 ho34)) rfl ?_
    refine ops_effect (v := .lit undef) (hp' := ⟨((h4.objs.set h4.next (.cells zid 43)).set h4.next (.cells [y1, y2] 43)).set h.next (.cells [x1, x2, y1, y2] 45), h4.next + 1⟩) rfl rfl rfl (store_eff (n := 4) (v := .agg [x1, x2, y1, y2]) (l := zcell) rfl (by simp only [ev_set]; exact e6) (by simp only [ev_set]; rfl) rfl hD5 (store_four ho12 ho34)) (Nat.le_refl _) rfl ?_
    refine ops_quiet rfl rfl rfl ?_
    refine ops_nil ?_
    refine runs_ret ?_
    have hl := load_all (P := Tryz.prog) (Γ := Γ) (h := ⟨((h4.objs.set h4.next (.cells zid 43)).set h4.next (.cells [y1, y2] 43)).set h.next (.cells [x1, x2, y1, y2] 45), h4.next + 1⟩) tyAggCell tySizeCell get_same rfl
    exact ⟨_, leave_two rfl rfl (by simp only [ev_set]; exact e6) hl (by simp only [ev_set]; rfl), rfl, fin _ _ hs5 hD5 hL5⟩

set_option maxHeartbeats 8000000 in
set_option maxRecDepth 20000 in
theorem cell_runs (Γ : Glob) (h : Hp) (S A1 A2 C N n m : Nat) (p q : Int) (hn : n ≤ 1000) (hm : m ≤ 1000) (hs : ShAt h S A1 A2 C N n m) : Runs Tryz.prog Γ (.call 9 [.ptr S 0, .lit (.int .i64 p), .lit (.int .i64 q)] h) fun r => r.v = .tuple [.agg (cellC n m p q), .lit (.bool (cellOk n m p q))] ∧ ShAt r.hp S A1 A2 C N n m ∧ Left2 h r.hp A1 A2 := by
  obtain ⟨x1, x2, hc1, hx1, hx2⟩ := two_of (atC_one n p).1 (atC_one n p).2
  obtain ⟨y1, y2, hc2, hy1, hy2⟩ := two_of (atC_one m q).1 (atC_one m q).2
  obtain ⟨o1, ho1⟩ : ∃ o, atOk n p = o := ⟨_, rfl⟩
  obtain ⟨o2, ho2⟩ : ∃ o, atOk m q = o := ⟨_, rfl⟩
  have ho12 : ([x1, x2] : List SV).all SV.one = true := by simp [hx1, hx2]
  have ho34 : ([y1, y2] : List SV).all SV.one = true := by simp [hy1, hy2]
  have hcc : cellC n m p q = if (o1 && o2) = true then [x1, x2] ++ [y1, y2] else zcell := by unfold cellC cellOk; rw [hc1, hc2, ho1, ho2]
  have hco : cellOk n m p q = (o1 && o2) := by unfold cellOk; rw [ho1, ho2]
  rw [hcc, hco]
  obtain ⟨d1, d2, d3, d4⟩ := hs.lt h.next (Nat.le_refl _)
  have hs1 : ShAt ⟨h.objs.set h.next (.cells zcell 45), h.next + 1⟩ S A1 A2 C N n m := hs.new (Nat.le_succ _) fun b hb => get_ne (Nat.ne_of_lt hb)
  have hat1 := at_runs Γ ⟨h.objs.set h.next (.cells zcell 45), h.next + 1⟩ _ A1 n p hs1.off1 hn hs1.a1
  rw [hc1, ho1] at hat1
  refine runs_call Tryz.func9 rfl ?_
  refine runs_seq (runs_region ?_)
  refine ops_effect (v := .ptr h.next 0) (hp' := ⟨h.objs.set h.next (.cells zcell 45), h.next + 1⟩) rfl rfl rfl rfl (Nat.le_succ _) rfl ?_
  refine ops_quiet rfl rfl rfl ?_
  refine ops_nil ?_
  refine runs_seq (runs_seq (runs_region ?_))
  refine ops_quiet (v := .ptr S 0) (fs := []) rfl rfl rfl ?_
  refine ops_call (f := 26) (args := [.ptr S 0]) rfl rfl rfl rfl ?_
  refine (whole_runs Γ _ S A1 A2 C N hs1.s).mono ?_
  rintro ⟨ex, fr, hp, v⟩ ⟨hv, hhp⟩
  have hv : v = .lit (.bool true) := hv
  have hhp : hp = ⟨h.objs.set h.next (.cells zcell 45), h.next + 1⟩ := hhp
  subst hv hhp
  refine ⟨_, rfl, ?_⟩
  refine ops_quiet (v := .lit (.bool false)) (fs := []) rfl rfl rfl ?_
  refine ops_nil ?_
  refine runs_cond false rfl (runs_skip ?_)
  refine runs_seq (runs_region ?_)
  refine ops_quiet (v := .ptr S 0) (fs := []) rfl rfl rfl ?_
  refine ops_quiet (v := .ptr S 0) (fs := []) rfl rfl rfl ?_
  refine ops_quiet (v := .ptr S 0) (fs := []) rfl rfl rfl ?_
  refine ops_quiet (v := .ptr A1 0) (fs := [.cells S 0 [.ptr A1 0]]) rfl (by simp only [quiet, ev_set]; exact load_cell rfl hs1.s rfl) rfl ?_
  refine ops_quiet (v := .lit (.int .i64 p)) (fs := []) rfl rfl rfl ?_
  refine ops_call (f := 27) (args := [.ptr A1 0, .lit (.int .i64 p)]) rfl rfl rfl rfl ?_
  refine hat1.mono ?_
  rintro ⟨ex2, fr2, h2, v2⟩ ⟨hv2, hax2, hl2⟩
  have hv2 : v2 = .tuple [.agg [x1, x2], .lit (.bool o1)] := hv2
  subst hv2
  have hl2 : Left ⟨h.objs.set h.next (.cells zcell 45), h.next + 1⟩ h2 A1 := hl2
  have hs2 : ShAt h2 S A1 A2 C N n m := hs1.left1 hl2 hax2
  have hD2 : h2.objs.get h.next = some (.cells zcell 45) := (hl2.1 h.next (Nat.lt_succ_self _) d3).trans get_same
  have hn2 : h.next + 1 ≤ h2.next := hl2.2
  have hL2 : Left2 h h2 A1 A2 := Left2.trans ⟨fun b hb _ _ => get_ne (Nat.ne_of_lt hb), Nat.le_succ _⟩ (hl2.one A2)
  refine ⟨_, rfl, ?_⟩
  refine ops_quiet (v := .tuple [.agg [x1, x2], .lit (.bool o1)]) (fs := []) rfl rfl rfl ?_
  refine ops_quiet (v := .agg [x1, x2]) (fs := []) rfl rfl rfl ?_
  refine ops_quiet (v := .lit (.bool o1)) (fs := []) rfl rfl rfl ?_
  refine ops_effect (v := .ptr h2.next 0) (hp' := ⟨h2.objs.set h2.next (.cells zid 43), h2.next + 1⟩) rfl rfl rfl rfl (Nat.le_succ _) rfl ?_
  refine ops_effect (v := .lit undef) (hp' := ⟨(h2.objs.set h2.next (.cells zid 43)).set h2.next (.cells [x1, x2] 43), h2.next + 1⟩) rfl rfl rfl (store_eff (n := 2) (v := .agg [x1, x2]) (l := zid) rfl rfl rfl rfl get_same (store_id rfl rfl ho12)) (Nat.le_refl _) rfl ?_
  refine ops_quiet (v := .lit (.bool o1)) (fs := []) rfl rfl rfl ?_
  refine ops_nil ?_
  have hs3 : ShAt ⟨(h2.objs.set h2.next (.cells zid 43)).set h2.next (.cells [x1, x2] 43), h2.next + 1⟩ S A1 A2 C N n m := hs2.new (Nat.le_succ _) fun b hb => (get_ne (Nat.ne_of_lt hb)).trans (get_ne (Nat.ne_of_lt hb))
  have hne : h.next ≠ h2.next := Nat.ne_of_lt hn2
  have hD3 : ((h2.objs.set h2.next (.cells zid 43)).set h2.next (.cells [x1, x2] 43)).get h.next = some (.cells zcell 45) := (get_ne hne).trans ((get_ne hne).trans hD2)
  have hL3 : Left2 h ⟨(h2.objs.set h2.next (.cells zid 43)).set h2.next (.cells [x1, x2] 43), h2.next + 1⟩ A1 A2 := hL2.trans ⟨fun b hb _ _ => (get_ne (Nat.ne_of_lt hb)).trans (get_ne (Nat.ne_of_lt hb)), Nat.le_succ _⟩
  have fin : ∀ (h' : Hp) (c : List SV), ShAt h' S A1 A2 C N n m → h'.objs.get h.next = some (.cells zcell 45) → Left2 h h' A1 A2 → ShAt ⟨h'.objs.set h.next (.cells c 45), h'.next⟩ S A1 A2 C N n m ∧ Left2 h ⟨h'.objs.set h.next (.cells c 45), h'.next⟩ A1 A2 := fun h' c g1 g2 g3 =>
    ⟨g1.store g2 d1 d2 d3 d4, fun b hb e1 e2 => (get_ne (Nat.ne_of_lt hb)).trans (g3.1 b hb e1 e2), g3.2⟩
  refine runs_seq (runs_seq (runs_region ?_))
  refine ops_quiet (v := .lit (.bool o1)) (fs := []) rfl rfl rfl ?_
  refine ops_quiet (v := .lit (.bool !o1)) (fs := []) rfl rfl rfl ?_
  refine ops_nil ?_
  cases o1 with
  | false =>
    refine runs_cond true rfl ?_
    refine runs_seq (runs_region ?_)
    refine ops_quiet (v := .agg zcell) (fs := []) rfl rfl rfl ?_
    refine ops_effect (v := .lit undef) (hp' := ⟨((h2.objs.set h2.next (.cells zid 43)).set h2.next (.cells [x1, x2] 43)).set h.next (.cells zcell 45), h2.next + 1⟩) rfl rfl rfl (store_eff (n := 4) (v := .agg zcell) (l := zcell) rfl rfl rfl rfl hD3 rfl) (Nat.le_refl _) rfl ?_
    refine ops_quiet rfl rfl rfl ?_
    refine ops_nil ?_
    refine runs_ret ?_
    have hl := load_all (P := Tryz.prog) (Γ := Γ) (h := ⟨((h2.objs.set h2.next (.cells zid 43)).set h2.next (.cells [x1, x2] 43)).set h.next (.cells zcell 45), h2.next + 1⟩) tyAggCell tySizeCell get_same rfl
    exact ⟨_, leave_two rfl rfl rfl hl rfl, rfl, fin _ zcell hs3 hD3 hL3⟩
  | true =>
    refine runs_cond false rfl (runs_skip ?_)
    refine cell_second Γ h ⟨(h2.objs.set h2.next (.cells zid 43)).set h2.next (.cells [x1, x2] 43), h2.next + 1⟩ S A1 A2 C N n m h2.next q x1 x2 y1 y2 o2 _ hm hc2 ho2 ho12 ho34 hs3 hD3 get_same hn2 (Nat.lt_succ_self _) hL3 fin ?_ ?_ ?_ ?_
    · rfl
    · rfl
    · rfl
    · rfl
end Go.Proofs.YtpfagdkpolhopaaGreatDoor.sheetNew
namespace Go.Proofs.YtpfagdkpolhopaaGreatDoor.sheetNew
open Go Go.Proofs.YtpfagdkpolhopaaGreatDoor.Ev

set_option maxRecDepth 10000 in
theorem zeroContent : ∃ z, tyZero Tryz.prog 60 = some z ∧ (SV.cells (.lit z)).length = 29 ∧ (SV.cells (.lit z)).all SV.one = true ∧ (SV.cells (.lit z))[0]? = some (.lit (.int .i64 0)) ∧ buildQ Tryz.prog 60 [] = some (.agg (SV.cells (.lit z))) := ⟨_, rfl, rfl, rfl, rfl, rfl⟩
set_option maxRecDepth 10000 in
theorem tyAggContent : tyAgg Tryz.prog 60 = some true := rfl
set_option maxRecDepth 10000 in
theorem tySizeContent : tySize Tryz.prog 60 = some 29 := rfl
theorem splice_all {l c : List SV} {n : Nat} (hl : l.length = n) (hc : c.length = n) (ho : c.all SV.one = true) : splice l 0 c = some c := by
  simp only [splice, Nat.zero_add, hc, hl, Nat.ble_eq_true_of_le (Nat.le_refl _), ho, Bool.and_self, cond_true, List.take_zero, List.nil_append]
  rw [← hl, List.drop_length, List.append_nil]

def cellL (a b c d : Int) : List SV := [.lit (.int .i64 a), .lit (.int .i64 b), .lit (.int .i64 c), .lit (.int .i64 d)]
def cellV (a b c d : Int) : Value := .agg #[.int .i64 a, .int .i64 b, .int .i64 c, .int .i64 d]
theorem cellC_lits (n m : Nat) (p q : Int) : ∃ a b c d, cellC n m p q = cellL a b c d := by
  unfold cellC cellOk atC
  cases atOk n p <;> cases atOk m q <;> exact ⟨_, _, _, _, rfl⟩
theorem cellKey (e : Bool) (a b c d : Int) : pureRun Tryz.prog (Instr.checkKey e 10000 45 (cellV a b c d)) = some () := by kernel_rfl
set_option maxRecDepth 10000 in
theorem tyStoreMap : tyU Tryz.prog 113 = some (.map 45 60) := rfl
theorem lookup_nil {h : Hp} {z : Value} {a b c d : Int} (hz : tyZero Tryz.prog 60 = some z) : lookupQ Tryz.prog h 113 (.lit (.map none)) (.agg (cellL a b c d)) true = some (.tuple [.lit z, .lit (.bool false)], []) := by
  have ht : SV.toLit (.agg (cellL a b c d)) = some (cellV a b c d) := rfl
  simp only [lookupQ, tyStoreMap, entriesQ, ht, cellKey, findQ, hz, cond_true, litBool]

noncomputable def getOps : Array Oper := opsOf (seqL (seqR (seqR (bodyOf Tryz.f28))))
set_option maxHeartbeats 8000000 in
set_option maxRecDepth 20000 in
theorem get_runs (Γ : Glob) (h : Hp) (C : Nat) (a b c d : Int) (z : Value) (hz : tyZero Tryz.prog 60 = some z) (hzl : (SV.cells (.lit z)).length = 29) (hzo : (SV.cells (.lit z)).all SV.one = true) (hzb : buildQ Tryz.prog 60 [] = some (.agg (SV.cells (.lit z)))) (hC : h.objs.get C = some (.cells [.lit (.map none)] 115)) (hCn : C < h.next) :
    Runs Tryz.prog Γ (.call 28 [.ptr C 0, .agg (cellL a b c d)] h) fun r => r.v = .agg (SV.cells (.lit z)) ∧ Kept h.next h r.hp := by
  obtain ⟨h1, hh1⟩ : ∃ h1 : Hp, h1 = ⟨(h.objs.set h.next (.cells (cellL a b c d) 45)).set (h.next + 1) (.cells (SV.cells (.lit z)) 60), h.next + 2⟩ := ⟨_, rfl⟩
  have hn1 : h1.next = h.next + 2 := by rw [hh1]
  have hC1 : h1.objs.get C = some (.cells [.lit (.map none)] 115) := by rw [hh1]; exact (get_ne (by omega)).trans ((get_ne (by omega)).trans hC)
  have hX1 : h1.objs.get h.next = some (.cells (cellL a b c d) 45) := by rw [hh1]; exact (get_ne (by omega)).trans get_same
  have hY1 : h1.objs.get (h.next + 1) = some (.cells (SV.cells (.lit z)) 60) := by rw [hh1]; exact get_same
  have hk1 : ∀ b, b < h.next → h1.objs.get b = h.objs.get b := fun b hb => by rw [hh1]; exact (get_ne (by omega)).trans (get_ne (by omega))
  have hle1 : h.next + 1 ≤ h1.next := by omega
  have b1 : Nat.beq C h1.next = false := beq_f (by omega)
  have b2 : Nat.beq h.next h1.next = false := beq_f (by omega)
  have e1 : h.next + 1 ≠ h1.next := by omega
  obtain ⟨h2, hh2⟩ : ∃ h2 : Hp, h2 = ⟨(h1.objs.set h1.next (.cells (SV.cells (.lit z)) 60)).set h1.next (.cells (SV.cells (.lit z)) 60), h1.next + 1⟩ := ⟨_, rfl⟩
  have hY2 : h2.objs.get (h.next + 1) = some (.cells (SV.cells (.lit z)) 60) := by rw [hh2]; exact (get_ne e1).trans ((get_ne e1).trans hY1)
  have hk2 : ∀ b, b < h.next → h2.objs.get b = h.objs.get b := fun b hb => by rw [hh2]; exact (get_ne (by omega)).trans ((get_ne (by omega)).trans (hk1 b hb))
  have hn2 : h2.next = h.next + 3 := by rw [hh2]; show h1.next + 1 = _; omega
  have hfin : Kept h.next h ⟨h2.objs.set (h.next + 1) (.cells (SV.cells (.lit z)) 60), h2.next⟩ := ⟨by show h.next ≤ h2.next; omega, fun b hb => (get_ne (by omega)).trans (hk2 b hb)⟩
  have d910 : Nat.testBit (descOf 9 getOps.toList 0 0) 10 = true := rfl
  have hhide : ∀ t : T AObj, hide 10 [⟨descOf 9 getOps.toList 0 0, [], some (h1.next, .cells (SV.cells (.lit z)) 60)⟩, ⟨descOf 4 getOps.toList 0 0, [.cells h.next 0 (cellL a b c d)], none⟩, ⟨descOf 3 getOps.toList 0 0, [.cells C 0 [.lit (.map none)]], none⟩] t = t := fun t => by simp only [hide, d910, cond_true]
  have hc0 : loadQ Tryz.prog Γ h1 113 (.ptr C 0) = some (.lit (.map none), [.cells C 0 [.lit (.map none)]]) := load_cell rfl hC1 rfl
  have hx0 : loadQ Tryz.prog Γ h1 45 (.ptr h.next 0) = some (.agg (cellL a b c d), [.cells h.next 0 (cellL a b c d)]) := load_all tyAggCell tySizeCell hX1 rfl
  refine runs_call Tryz.func28 rfl ?_
  refine runs_seq (runs_region ?_)
  refine ops_effect (v := .ptr h.next 0) (hp' := ⟨h.objs.set h.next (.cells (cellL a b c d) 45), h.next + 1⟩) rfl rfl rfl rfl (Nat.le_succ _) rfl ?_
  refine ops_effect (v := .ptr (h.next + 1) 0) (hp' := h1) rfl rfl rfl (by rw [hh1]; simp only [effect, hz]; rfl) hle1 rfl ?_
  refine ops_nil ?_
  refine runs_seq (runs_seq (runs_region ?_))
  refine ops_quiet (v := .ptr C 0) (fs := []) rfl rfl rfl ?_
  refine ops_quiet (v := .lit (.bool false)) (fs := []) rfl rfl rfl ?_
  refine ops_nil ?_
  refine runs_cond false rfl (runs_skip ?_)
  refine runs_seq (runs_drawn (ops := getOps) rfl ?_)
  refine drawn_end (m' := 4095) (hp' := h2) (held' := [⟨descOf 10 getOps.toList 0 0, [], some (h1.next, .cells (SV.cells (.lit z)) 60)⟩, ⟨descOf 9 getOps.toList 0 0, [], some (h1.next, .cells (SV.cells (.lit z)) 60)⟩, ⟨descOf 4 getOps.toList 0 0, [.cells h.next 0 (cellL a b c d)], none⟩, ⟨descOf 3 getOps.toList 0 0, [.cells C 0 [.lit (.map none)]], none⟩]) (by
    refine take_quiet (v := .ptr C 0) rfl rfl rfl rfl rfl ?_
    refine take_quiet (v := .ptr C 0) rfl rfl rfl rfl rfl ?_
    refine take_quiet (v := .ptr C 0) rfl rfl rfl rfl rfl ?_
    refine take_lean (v := .lit (.map none)) (fs := .cells C 0 [.lit (.map none)]) rfl rfl rfl (by simp only [quiet, ev_set]; exact hc0) rfl ?_
    refine take_lean (v := .agg (cellL a b c d)) (fs := .cells h.next 0 (cellL a b c d)) rfl rfl rfl (by simp only [quiet, ev_set]; exact hx0) rfl ?_
    refine take_quiet (v := .tuple [.lit z, .lit (.bool false)]) rfl rfl rfl (by simp only [quiet, ev_set]; exact lookup_nil hz) rfl ?_
    refine take_quiet (v := .tuple [.lit z, .lit (.bool false)]) rfl rfl rfl rfl rfl ?_
    refine take_quiet (v := .lit z) rfl rfl rfl rfl rfl ?_
    refine take_quiet (v := .lit (.bool false)) rfl rfl rfl rfl rfl ?_
    refine take_local (v := .ptr h1.next 0) (b := h1.next) (nx := h1.next + 1) (ob := .cells (SV.cells (.lit z)) 60) rfl rfl rfl rfl (by simp only [localE, hz]; rfl) (by simp [noneLeans, Fact.blk, b1, b2]) rfl ?_
    refine take_local (v := .lit undef) (b := h1.next) (nx := h1.next + 1) (ob := .cells (SV.cells (.lit z)) 60) rfl rfl rfl rfl (Eq.trans (congrArg (fun t => localE Tryz.prog ⟨t, h1.next + 1⟩ _ _) (hhide _)) (local_store (h := ⟨h1.objs.set h1.next (.cells (SV.cells (.lit z)) 60), h1.next + 1⟩) (n := 29) (v := .lit z) (l := SV.cells (.lit z)) rfl rfl rfl hzl get_same (splice_all hzl hzl hzo))) (by simp [noneLeans, Fact.blk, b1, b2]) rfl ?_
    refine take_quiet (v := .lit (.bool false)) rfl rfl rfl rfl rfl ?_
    rw [hh2]
    rfl) rfl rfl ?_
  refine runs_seq (runs_seq (runs_region ?_))
  refine ops_quiet (v := .lit (.bool false)) (fs := []) rfl rfl rfl ?_
  refine ops_quiet (v := .lit (.bool true)) (fs := []) rfl rfl rfl ?_
  refine ops_nil ?_
  refine runs_cond true rfl ?_
  refine runs_seq (runs_region ?_)
  refine ops_quiet (v := .agg (SV.cells (.lit z))) (fs := []) rfl (congrArg one hzb) rfl ?_
  refine ops_effect (v := .lit undef) (hp' := ⟨h2.objs.set (h.next + 1) (.cells (SV.cells (.lit z)) 60), h2.next⟩) rfl rfl rfl (store_eff (n := 29) (v := .agg (SV.cells (.lit z))) (l := SV.cells (.lit z)) rfl rfl rfl hzl hY2 (splice_all hzl hzl hzo)) (Nat.le_refl _) rfl ?_
  refine ops_nil ?_
  refine runs_ret ?_
  have hl := load_all (P := Tryz.prog) (Γ := Γ) (h := ⟨h2.objs.set (h.next + 1) (.cells (SV.cells (.lit z)) 60), h2.next⟩) tyAggContent tySizeContent get_same hzl
  exact ⟨_, leave_cell rfl rfl rfl hl, rfl, hfin⟩
end Go.Proofs.YtpfagdkpolhopaaGreatDoor.sheetNew
namespace Go.Proofs.YtpfagdkpolhopaaGreatDoor.sheetNew
open Go Go.Proofs.YtpfagdkpolhopaaGreatDoor.Ev

noncomputable def contOps : Array Oper := opsOf (seqL (seqR (seqR (seqR (bodyOf Tryz.f11)))))
noncomputable def contEnd : Code := seqR (seqR (bodyOf Tryz.f11))
/-- The zero content. -/
structure ZC (z : Value) : Prop where
  zero : tyZero Tryz.prog 60 = some z
  len : (SV.cells (.lit z)).length = 29
  one : (SV.cells (.lit z)).all SV.one = true
  kind : (SV.cells (.lit z))[0]? = some (.lit (.int .i64 0))
  build : buildQ Tryz.prog 60 [] = some (.agg (SV.cells (.lit z)))
theorem exZC : ∃ z, ZC z := by
  obtain ⟨z, h1, h2, h3, h4, h5⟩ := zeroContent
  exact ⟨z, h1, h2, h3, h4, h5⟩

set_option maxHeartbeats 8000000 in
set_option maxRecDepth 20000 in
theorem cont_end (Γ : Glob) (h h2 : Hp) (S A1 A2 C N n m X : Nat) (a b c d : Int) (o : Bool) (z : Value) (tm : T SV) (hz : ZC z) (hs : ShAt h2 S A1 A2 C N n m) (hX : h2.objs.get X = some (.cells (cellL a b c d) 45)) (_hXn : X < h2.next) (hY : h2.objs.get h.next = some (.cells (SV.cells (.lit z)) 60)) (hYn : h.next < h2.next)
    (hd : h.next ≠ S ∧ h.next ≠ C ∧ h.next ≠ A1 ∧ h.next ≠ A2) (hL : Left2 h h2 A1 A2)
    (e0 : Fr.ev ⟨tm, 25, []⟩ (.tmp 0) = .ptr S 0) (e6 : Fr.ev ⟨tm, 25, []⟩ (.tmp 6) = .ptr h.next 0) (e7 : Fr.ev ⟨tm, 25, []⟩ (.tmp 7) = .ptr X 0) (e8 : Fr.ev ⟨tm, 25, []⟩ (.tmp 8) = .lit (.bool o)) :
    Runs Tryz.prog Γ (.code contEnd none ⟨tm, 25, []⟩ h2) fun o => ∃ r, leave Tryz.prog Γ Tryz.f11 o = some [r] ∧ r.v = .agg (SV.cells (.lit z)) ∧ ShAt r.hp S A1 A2 C N n m ∧ Left2 h r.hp A1 A2 := by
  obtain ⟨d1, d2, d3, d4⟩ := hd
  have fin : ∀ h' : Hp, ShAt h' S A1 A2 C N n m → h'.objs.get h.next = some (.cells (SV.cells (.lit z)) 60) → Left2 h h' A1 A2 → ShAt ⟨h'.objs.set h.next (.cells (SV.cells (.lit z)) 60), h'.next⟩ S A1 A2 C N n m ∧ Left2 h ⟨h'.objs.set h.next (.cells (SV.cells (.lit z)) 60), h'.next⟩ A1 A2 := fun h' g1 g2 g3 =>
    ⟨g1.store g2 d1 d2 d3 d4, fun b hb k1 k2 => (get_ne (Nat.ne_of_lt hb)).trans (g3.1 b hb k1 k2), g3.2⟩
  have hget := get_runs Γ h2 C a b c d z hz.zero hz.len hz.one hz.build hs.c hs.cn
  have hx0 : loadQ Tryz.prog Γ h2 45 (.ptr X 0) = some (.agg (cellL a b c d), [.cells X 0 (cellL a b c d)]) := load_all tyAggCell tySizeCell hX rfl
  refine runs_seq (runs_seq (runs_region ?_))
  refine ops_quiet (v := .lit (.bool o)) (fs := []) rfl (by simp only [quiet, e8]) rfl ?_
  refine ops_quiet (v := .lit (.bool !o)) (fs := []) rfl (by simp only [quiet, ev_set]; rfl) rfl ?_
  refine ops_nil ?_
  cases o with
  | false =>
    refine runs_cond true (by simp [ev_set]) ?_
    refine runs_seq (runs_region ?_)
    refine ops_quiet (v := .agg (SV.cells (.lit z))) (fs := []) rfl (congrArg one hz.build) rfl ?_
    refine ops_effect (v := .lit undef) (hp' := ⟨h2.objs.set h.next (.cells (SV.cells (.lit z)) 60), h2.next⟩) rfl rfl rfl (store_eff (n := 29) (v := .agg (SV.cells (.lit z))) (l := SV.cells (.lit z)) rfl (by simp only [ev_set]; exact e6) (by simp only [ev_set]; rfl) hz.len hY (splice_all hz.len hz.len hz.one)) (Nat.le_refl _) rfl ?_
    refine ops_nil ?_
    refine runs_ret ?_
    have hl := load_all (P := Tryz.prog) (Γ := Γ) (h := ⟨h2.objs.set h.next (.cells (SV.cells (.lit z)) 60), h2.next⟩) tyAggContent tySizeContent get_same hz.len
    exact ⟨_, leave_cell rfl rfl (by simp only [ev_set]; exact e6) hl, rfl, fin h2 hs hY hL⟩
  | true =>
    refine runs_cond false (by simp [ev_set]) (runs_skip ?_)
    refine runs_seq (runs_drawn (ops := contOps) rfl ?_)
    have dd3 : Nat.testBit (descOf 3 contOps.toList 0 0) 5 = true := rfl
    have dd4 : Nat.testBit (descOf 4 contOps.toList 0 0) 5 = true := rfl
    refine drawn_call (i := 5) (f := 28) (args := [.ptr C 0, .agg (cellL a b c d)]) (m' := 31) (held' := [⟨descOf 4 contOps.toList 0 0, [.cells X 0 (cellL a b c d)], none⟩, ⟨descOf 3 contOps.toList 0 0, [.cells S 2 [.ptr C 0]], none⟩]) (hp' := h2)
      (fr' := ⟨((((((tm.set 16 (.lit (.bool true))).set 17 (.lit (.bool false))).set 19 (.ptr S 0)).set 20 (.ptr S 0)).set 21 (.ptr S 2)).set 22 (.ptr C 0)).set 23 (.agg (cellL a b c d)), 25, []⟩) (by
      refine take_quiet (v := .ptr S 0) rfl rfl rfl (by simp only [quiet, ev_set, e0]; rfl) rfl ?_
      refine take_quiet (v := .ptr S 0) rfl rfl rfl (by simp only [quiet, ev_set]; rfl) rfl ?_
      refine take_quiet (v := .ptr S 2) rfl rfl rfl (by simp only [quiet, ev_set]; rfl) rfl ?_
      refine take_lean (v := .ptr C 0) (fs := .cells S 2 [.ptr C 0]) rfl rfl rfl (by simp only [quiet, ev_set]; exact load_cell rfl hs.s rfl) rfl ?_
      refine take_lean (v := .agg (cellL a b c d)) (fs := .cells X 0 (cellL a b c d)) rfl rfl rfl (by simp only [quiet, ev_set, e7]; exact hx0) rfl ?_
      refine take_loud rfl rfl rfl rfl rfl ?_
      refine take_wait rfl rfl ?_
      rfl) rfl rfl (by simp [calleeOf, ev_set]; rfl) rfl ?_
    refine hget.mono ?_
    rintro ⟨ex, fr, h3, v⟩ ⟨hv, hk⟩
    have hv : v = .agg (SV.cells (.lit z)) := hv
    subst hv
    have hk : Kept h2.next h2 h3 := hk
    have hs3 : ShAt h3 S A1 A2 C N n m := hs.new hk.next hk.old
    have hY3 : h3.objs.get h.next = some (.cells (SV.cells (.lit z)) 60) := (hk.old _ hYn).trans hY
    have hL3 : Left2 h h3 A1 A2 := hL.trans ⟨fun b hb _ _ => hk.old b hb, hk.next⟩
    refine ⟨h3.objs, _, rfl, rfl, by simp only [factsStand, dd3, dd4, cond_true, Bool.and_true], ?_⟩
    rw [show drop 5 [⟨descOf 4 contOps.toList 0 0, [.cells X 0 (cellL a b c d)], none⟩, ⟨descOf 3 contOps.toList 0 0, [.cells S 2 [.ptr C 0]], none⟩] = [] from by simp only [drop, dd3, dd4, cond_true]]
    refine drawn_end (m' := 127) (held' := [⟨descOf 6 contOps.toList 0 0, [], some (h.next, .cells (SV.cells (.lit z)) 60)⟩]) (hp' := ⟨h3.objs.set h.next (.cells (SV.cells (.lit z)) 60), h3.next⟩) (by
      refine take_done rfl ?_
      refine take_done rfl ?_
      refine take_done rfl ?_
      refine take_done rfl ?_
      refine take_done rfl ?_
      refine take_done rfl ?_
      refine take_local (v := .lit undef) (b := h.next) (nx := h3.next) (ob := .cells (SV.cells (.lit z)) 60) rfl rfl rfl rfl (local_store (h := h3) (n := 29) (v := .agg (SV.cells (.lit z))) (l := SV.cells (.lit z)) rfl (by simp only [ev_set]; exact e6) (by simp only [ev_set]; rfl) hz.len hY3 (splice_all hz.len hz.len hz.one)) rfl rfl ?_
      rfl) rfl rfl ?_
    refine runs_ret ?_
    have hl := load_all (P := Tryz.prog) (Γ := Γ) (h := ⟨h3.objs.set h.next (.cells (SV.cells (.lit z)) 60), h3.next⟩) tyAggContent tySizeContent get_same hz.len
    exact ⟨_, leave_cell rfl rfl (by simp only [ev_set]; exact e6) hl, rfl, fin h3 hs3 hY3 hL3⟩

set_option maxHeartbeats 8000000 in
set_option maxRecDepth 20000 in
theorem content_runs (Γ : Glob) (h : Hp) (S A1 A2 C N n m : Nat) (p q : Int) (z : Value) (hz : ZC z) (hn : n ≤ 1000) (hm : m ≤ 1000) (hs : ShAt h S A1 A2 C N n m) : Runs Tryz.prog Γ (.call 11 [.ptr S 0, .lit (.int .i64 p), .lit (.int .i64 q)] h) fun r => r.v = .agg (SV.cells (.lit z)) ∧ ShAt r.hp S A1 A2 C N n m ∧ Left2 h r.hp A1 A2 := by
  obtain ⟨a, b, c, d, hc⟩ := cellC_lits n m p q
  have hd := hs.lt h.next (Nat.le_refl _)
  have hs1 : ShAt ⟨h.objs.set h.next (.cells (SV.cells (.lit z)) 60), h.next + 1⟩ S A1 A2 C N n m := hs.new (Nat.le_succ _) fun b hb => get_ne (Nat.ne_of_lt hb)
  have hcell := cell_runs Γ ⟨h.objs.set h.next (.cells (SV.cells (.lit z)) 60), h.next + 1⟩ S A1 A2 C N n m p q hn hm hs1
  rw [hc] at hcell
  have hz0 := hz.zero
  refine runs_call Tryz.func11 rfl ?_
  refine runs_seq (runs_region ?_)
  refine ops_effect (v := .ptr h.next 0) (hp' := ⟨h.objs.set h.next (.cells (SV.cells (.lit z)) 60), h.next + 1⟩) rfl rfl rfl (by simp only [effect, hz0]; rfl) (Nat.le_succ _) rfl ?_
  refine ops_nil ?_
  refine runs_seq (runs_region ?_)
  refine ops_quiet (v := .ptr S 0) (fs := []) rfl rfl rfl ?_
  refine ops_quiet (v := .lit (.int .i64 p)) (fs := []) rfl rfl rfl ?_
  refine ops_quiet (v := .lit (.int .i64 q)) (fs := []) rfl rfl rfl ?_
  refine ops_call (f := 9) (args := [.ptr S 0, .lit (.int .i64 p), .lit (.int .i64 q)]) rfl rfl rfl rfl ?_
  refine hcell.mono ?_
  rintro ⟨ex, fr, h2, v⟩ ⟨hv, hs2, hl2⟩
  have hv : v = .tuple [.agg (cellL a b c d), .lit (.bool (cellOk n m p q))] := hv
  subst hv
  have hs2 : ShAt h2 S A1 A2 C N n m := hs2
  have hl2 : Left2 ⟨h.objs.set h.next (.cells (SV.cells (.lit z)) 60), h.next + 1⟩ h2 A1 A2 := hl2
  have hn2 : h.next + 1 ≤ h2.next := hl2.2
  have hY2 : h2.objs.get h.next = some (.cells (SV.cells (.lit z)) 60) := (hl2.1 h.next (Nat.lt_succ_self _) hd.2.2.1 hd.2.2.2).trans get_same
  have hne : h.next ≠ h2.next := by omega
  have hL2 : Left2 h h2 A1 A2 := Left2.trans ⟨fun b hb _ _ => get_ne (Nat.ne_of_lt hb), Nat.le_succ _⟩ hl2
  have hs3 : ShAt ⟨(h2.objs.set h2.next (.cells zcell 45)).set h2.next (.cells (cellL a b c d) 45), h2.next + 1⟩ S A1 A2 C N n m := hs2.new (Nat.le_succ _) fun b hb => (get_ne (Nat.ne_of_lt hb)).trans (get_ne (Nat.ne_of_lt hb))
  have hL3 : Left2 h ⟨(h2.objs.set h2.next (.cells zcell 45)).set h2.next (.cells (cellL a b c d) 45), h2.next + 1⟩ A1 A2 := hL2.trans ⟨fun b hb _ _ => (get_ne (Nat.ne_of_lt hb)).trans (get_ne (Nat.ne_of_lt hb)), Nat.le_succ _⟩
  have hYn : h.next < h2.next + 1 := by omega
  refine ⟨_, rfl, ?_⟩
  refine ops_quiet (v := .tuple [.agg (cellL a b c d), .lit (.bool (cellOk n m p q))]) (fs := []) rfl rfl rfl ?_
  refine ops_quiet (v := .agg (cellL a b c d)) (fs := []) rfl rfl rfl ?_
  refine ops_quiet (v := .lit (.bool (cellOk n m p q))) (fs := []) rfl rfl rfl ?_
  refine ops_effect (v := .ptr h2.next 0) (hp' := ⟨h2.objs.set h2.next (.cells zcell 45), h2.next + 1⟩) rfl rfl rfl rfl (Nat.le_succ _) rfl ?_
  refine ops_effect (v := .lit undef) (hp' := ⟨(h2.objs.set h2.next (.cells zcell 45)).set h2.next (.cells (cellL a b c d) 45), h2.next + 1⟩) rfl rfl rfl (store_eff (n := 4) (v := .agg (cellL a b c d)) (l := zcell) rfl rfl rfl rfl get_same rfl) (Nat.le_refl _) rfl ?_
  refine ops_quiet (v := .lit (.bool (cellOk n m p q))) (fs := []) rfl rfl rfl ?_
  refine ops_nil ?_
  refine cont_end Γ h ⟨(h2.objs.set h2.next (.cells zcell 45)).set h2.next (.cells (cellL a b c d) 45), h2.next + 1⟩ S A1 A2 C N n m h2.next a b c d (cellOk n m p q) z _ hz hs3 get_same (Nat.lt_succ_self _) ((get_ne hne).trans ((get_ne hne).trans hY2)) hYn hd hL3 ?_ ?_ ?_ ?_
  · rfl
  · rfl
  · rfl
  · rfl
end Go.Proofs.YtpfagdkpolhopaaGreatDoor.sheetNew
