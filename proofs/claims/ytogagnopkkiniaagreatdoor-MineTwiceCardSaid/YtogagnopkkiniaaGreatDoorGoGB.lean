/-
  WHAT IS GONE WHEN MORE IS DONE, in plain terms; by the author of this claim. No program. | STEPS THAT THE RUNS OF THIS CLAIM SHARE: numbers, deeds in memory, maps by ids; by the author of this claim, in the calculus of runs. | A MAP BY IDS OF ONE AUTHOR: what is looked up, and what is put in; by the author of this claim, in the calculus of runs.
-/
import Derived.Test.YtogagnopkkiniaaGreatDoorGoGA
import Derived.Test.YtogagnopkkiniaaGreatDoorEvGH
import Derived.Test.YtogagnopkkiniaaGreatDoorProg
import Derived.KernelRfl
namespace Go.Proofs.YtogagnopkkiniaaGreatDoor.gone

/-- What is gone hangs on the takers alone. -/
theorem G_congr {l m : List D} {q : Int} (h : ∀ d, isT q d = true → (d ∈ l ↔ d ∈ m)) : ∀ n, G l q n = G m q n := by
  have main : ∀ (k : Nat) (n : Int), above l n ≤ k → G l q n = G m q n := by
    intro k
    induction k with
    | zero =>
      intro n hk
      have no : ∀ (x : List D), (∀ d ∈ x, isT q d = true → d ∈ l) → G x q n = false := by
        intro x hx
        cases hg : G x q n with
        | false => rfl
        | true =>
          obtain ⟨d, hd, h1, h2, _⟩ := (G_iff x q n).1 hg
          have hl := hx d hd h1
          simp only [isT, Bool.and_eq_true, decide_eq_true_eq] at h1
          have := above_lt hl (show n < d.n by omega)
          omega
      rw [no l fun d hd _ => hd, no m fun d hd h1 => (h d h1).2 hd]
    | succ k ih =>
      intro n hk
      have step : ∀ d, d ∈ l → isT q d = true → d.tn = n → G l q d.n = G m q d.n := by
        intro d hd h1 h2
        simp only [isT, Bool.and_eq_true, decide_eq_true_eq] at h1
        have := above_lt hd (show n < d.n by omega)
        exact ih d.n (by omega)
      rw [Bool.eq_iff_iff, G_iff, G_iff]
      constructor
      · rintro ⟨d, hd, h1, h2, h3⟩
        exact ⟨d, (h d h1).1 hd, h1, h2, by rw [← step d hd h1 h2]; exact h3⟩
      · rintro ⟨d, hd, h1, h2, h3⟩
        have hl := (h d h1).2 hd
        exact ⟨d, hl, h1, h2, by rw [step d hl h1 h2]; exact h3⟩
  exact fun n => main _ n (Nat.le_refl _)

theorem G_top {l : List D} {q n : Int} (h : ∀ d ∈ l, isT q d = true → d.tn ≠ n) : G l q n = false := by
  cases hg : G l q n with
  | false => rfl
  | true =>
    obtain ⟨d, hd, h1, h2, _⟩ := (G_iff l q n).1 hg
    exact absurd h2 (h d hd h1)

/-- Taken back now, it is gone. -/
theorem taken {l : List D} {q m N : Int} (ht : ∀ d ∈ l, d.tn ≤ N) (hm : m ≤ N) : G (l ++ [⟨q, N + 1, 7, q, m⟩]) q m = true := by
  refine (G_iff _ _ _).2 ⟨⟨q, N + 1, 7, q, m⟩, List.mem_append_right _ (List.mem_singleton_self _), ?_, rfl, G_top fun d hd _ => ?_⟩
  · simp only [isT, Bool.and_eq_true, decide_eq_true_eq, true_and]
    omega
  · show d.tn ≠ N + 1
    rcases List.mem_append.1 hd with h | h
    · have := ht d h; omega
    · obtain rfl := List.mem_singleton.1 h
      show m ≠ N + 1
      omega
/-- If that is taken back, it is as it was. -/
theorem again {l : List D} {q m N : Int} (hn : ∀ d ∈ l, d.n ≤ N) (ht : ∀ d ∈ l, d.tn ≤ N) (hm : m ≤ N) : G (l ++ [⟨q, N + 1, 7, q, m⟩, ⟨q, N + 2, 7, q, N + 1⟩]) q m = G l q m := by
  have e2 : G (l ++ [⟨q, N + 1, 7, q, m⟩, ⟨q, N + 2, 7, q, N + 1⟩]) q (N + 2) = false := G_top fun d hd _ => by
    rcases List.mem_append.1 hd with h | h
    · have := ht d h; omega
    · simp only [List.mem_cons, List.not_mem_nil, or_false] at h
      rcases h with rfl | rfl
      · show m ≠ N + 2; omega
      · show N + 1 ≠ N + 2; omega
  have e1 : G (l ++ [⟨q, N + 1, 7, q, m⟩, ⟨q, N + 2, 7, q, N + 1⟩]) q (N + 1) = true := by
    refine (G_iff _ _ _).2 ⟨⟨q, N + 2, 7, q, N + 1⟩, List.mem_append_right _ (List.mem_cons_of_mem _ (List.mem_singleton_self _)), ?_, rfl, e2⟩
    simp only [isT, Bool.and_eq_true, decide_eq_true_eq, true_and]
    omega
  have main : ∀ (k : Nat) (x : Int), x ≤ N → above l x ≤ k → G (l ++ [⟨q, N + 1, 7, q, m⟩, ⟨q, N + 2, 7, q, N + 1⟩]) q x = G l q x := by
    intro k
    induction k with
    | zero =>
      intro x hx hk
      have no : G l q x = false := by
        cases hg : G l q x with
        | false => rfl
        | true =>
          obtain ⟨d, hd, h1, h2, _⟩ := (G_iff l q x).1 hg
          simp only [isT, Bool.and_eq_true, decide_eq_true_eq] at h1
          have := above_lt hd (show x < d.n by omega)
          omega
      rw [no]
      cases hg : G (l ++ [⟨q, N + 1, 7, q, m⟩, ⟨q, N + 2, 7, q, N + 1⟩]) q x with
      | false => rfl
      | true =>
        obtain ⟨d, hd, h1, h2, h3⟩ := (G_iff _ q x).1 hg
        rcases List.mem_append.1 hd with h | h
        · simp only [isT, Bool.and_eq_true, decide_eq_true_eq] at h1
          have := above_lt h (show x < d.n by omega)
          omega
        · simp only [List.mem_cons, List.not_mem_nil, or_false] at h
          rcases h with rfl | rfl
          · rw [e1] at h3; cases h3
          · have h2 : N + 1 = x := h2
            omega
    | succ k ih =>
      intro x hx hk
      rw [Bool.eq_iff_iff, G_iff, G_iff]
      constructor
      · rintro ⟨d, hd, h1, h2, h3⟩
        rcases List.mem_append.1 hd with h | h
        · refine ⟨d, h, h1, h2, ?_⟩
          rw [← ih d.n (hn d h) ?_]
          · exact h3
          · simp only [isT, Bool.and_eq_true, decide_eq_true_eq] at h1
            have := above_lt h (show x < d.n by omega)
            omega
        · simp only [List.mem_cons, List.not_mem_nil, or_false] at h
          rcases h with rfl | rfl
          · rw [e1] at h3; cases h3
          · have h2 : N + 1 = x := h2
            omega
      · rintro ⟨d, hd, h1, h2, h3⟩
        refine ⟨d, List.mem_append_left _ hd, h1, h2, ?_⟩
        rw [ih d.n (hn d hd) ?_]
        · exact h3
        · simp only [isT, Bool.and_eq_true, decide_eq_true_eq] at h1
          have := above_lt hd (show x < d.n by omega)
          omega
  exact main _ m hm (Nat.le_refl _)
theorem again' {l : List D} {q m N : Int} (hn : ∀ d ∈ l, d.n ≤ N) (ht : ∀ d ∈ l, d.tn ≤ N) (hm : m ≤ N) : G (l ++ [⟨q, N + 2, 7, q, N + 1⟩, ⟨q, N + 1, 7, q, m⟩]) q m = G l q m := by
  rw [← again hn ht hm]
  refine G_congr (fun d _ => ?_) m
  simp only [List.mem_append, List.mem_cons, List.not_mem_nil, or_false]
  exact or_congr Iff.rfl or_comm
/-- What is no taker counts for nothing. -/
theorem beside {l : List D} {q : Int} {x : D} (hx : isT q x = false) (n : Int) : G (l ++ [x]) q n = G l q n :=
  G_congr (fun d hd => by
    rw [List.mem_append, List.mem_singleton]
    constructor
    · rintro (h | rfl)
      · exact h
      · rw [hx] at hd; cases hd
    · exact .inl) n
end Go.Proofs.YtogagnopkkiniaaGreatDoor.gone
namespace Go.Proofs.YtogagnopkkiniaaGreatDoor.gone
open Go Go.Proofs.YtogagnopkkiniaaGreatDoor.Ev

def seqL : Code → Code
  | .seq a _ => a
  | c => c
def seqR : Code → Code
  | .seq _ b => b
  | c => c
def inBlk : Code → Code
  | .block _ c => c
  | c => c
def inLoop : Code → Code
  | .loop c => c
  | c => c
def condL : Code → Code
  | .cond _ a _ => a
  | c => c
def condR : Code → Code
  | .cond _ _ b => b
  | c => c
def opsOf : Code → Array Oper
  | .region _ ops _ => ops
  | _ => #[]
def bodyOf (f : Func) : Code := match f.body with
  | some c => c
  | none => .skip

def iv (n : Int) : SV := .lit (.int .i64 n)

theorem lssT {x y : Operand} {a b : Int} (h : a < b) : binQ Tryz.prog .lss 3 x y (.lit (.int .i64 a)) (.lit (.int .i64 b)) = some (.lit (.bool true)) := by
  show some (SV.lit (.bool (decide (a < b)))) = _
  rw [decide_eq_true h]
theorem lssF {x y : Operand} {a b : Int} (h : ¬ a < b) : binQ Tryz.prog .lss 3 x y (.lit (.int .i64 a)) (.lit (.int .i64 b)) = some (.lit (.bool false)) := by
  show some (SV.lit (.bool (decide (a < b)))) = _
  rw [decide_eq_false h]
theorem leqT {x y : Operand} {a b : Int} (h : a ≤ b) : binQ Tryz.prog .leq 3 x y (.lit (.int .i64 a)) (.lit (.int .i64 b)) = some (.lit (.bool true)) := by
  show some (SV.lit (.bool (decide (a ≤ b)))) = _
  rw [decide_eq_true h]
theorem leqF {x y : Operand} {a b : Int} (h : ¬ a ≤ b) : binQ Tryz.prog .leq 3 x y (.lit (.int .i64 a)) (.lit (.int .i64 b)) = some (.lit (.bool false)) := by
  show some (SV.lit (.bool (decide (a ≤ b)))) = _
  rw [decide_eq_false h]
theorem gtrT {x y : Operand} {a b : Int} (h : b < a) : binQ Tryz.prog .gtr 3 x y (.lit (.int .i64 a)) (.lit (.int .i64 b)) = some (.lit (.bool true)) := by
  show some (SV.lit (.bool (decide (a > b)))) = _
  rw [decide_eq_true h]
theorem gtrF {x y : Operand} {a b : Int} (h : ¬ b < a) : binQ Tryz.prog .gtr 3 x y (.lit (.int .i64 a)) (.lit (.int .i64 b)) = some (.lit (.bool false)) := by
  show some (SV.lit (.bool (decide (a > b)))) = _
  rw [decide_eq_false h]
theorem eqlT {x y : Operand} {a b : Int} (h : a = b) : binQ Tryz.prog .eql 3 x y (.lit (.int .i64 a)) (.lit (.int .i64 b)) = some (.lit (.bool true)) := by
  show some (SV.lit (.bool (a == b))) = _
  rw [beq_iff_eq.2 h]
theorem eqlF {x y : Operand} {a b : Int} (h : a ≠ b) : binQ Tryz.prog .eql 3 x y (.lit (.int .i64 a)) (.lit (.int .i64 b)) = some (.lit (.bool false)) := by
  show some (SV.lit (.bool (a == b))) = _
  rw [beq_eq_false_iff_ne.2 h]
theorem neqT {x y : Operand} {a b : Int} (h : a ≠ b) : binQ Tryz.prog .neq 3 x y (.lit (.int .i64 a)) (.lit (.int .i64 b)) = some (.lit (.bool true)) := by
  show some (SV.lit (.bool (!(a == b)))) = _
  rw [beq_eq_false_iff_ne.2 h]; rfl
theorem neqF {x y : Operand} {a b : Int} (h : a = b) : binQ Tryz.prog .neq 3 x y (.lit (.int .i64 a)) (.lit (.int .i64 b)) = some (.lit (.bool false)) := by
  show some (SV.lit (.bool (!(a == b)))) = _
  rw [beq_iff_eq.2 h]; rfl
theorem wrap_in {z : Int} (h1 : -9223372036854775808 ≤ z) (h2 : z < 9223372036854775808) : IntKind.i64.wrap z = z := by
  have h64 : (2 : Int) ^ 64 = 18446744073709551616 := by decide
  have h63 : (2 : Int) ^ (64 - 1) = 9223372036854775808 := by decide
  simp only [IntKind.wrap, IntKind.signed, IntKind.bits, h64, h63]
  by_cases hz : 0 ≤ z
  · rw [Int.emod_eq_of_lt hz (by omega)]
    simp [show ¬ (z ≥ 9223372036854775808) by omega]
  · have e : z % 18446744073709551616 = z + 18446744073709551616 := by omega
    rw [e]
    simp [show z + 18446744073709551616 ≥ 9223372036854775808 by omega]
theorem addQ {x y : Operand} {a b c : Int} (h : a + b = c) (h1 : -9223372036854775808 ≤ c) (h2 : c < 9223372036854775808) : binQ Tryz.prog .add 3 x y (.lit (.int .i64 a)) (.lit (.int .i64 b)) = some (.lit (.int .i64 c)) := by
  show some (SV.lit (.int .i64 (IntKind.i64.wrap (a + b)))) = _
  rw [h, wrap_in h1 h2]

set_option maxRecDepth 10000 in
theorem infoDeed : ∃ i z, Tryz.prog.info? 42 = some i ∧ i.zero = some z ∧ i.size = 39 ∧ i.bytes ≤ 1000 ∧ (SV.cells (.lit z)).length = 39 := ⟨_, _, rfl, rfl, rfl, by decide, rfl⟩
set_option maxRecDepth 10000 in
theorem tyDeeds : tyU Tryz.prog 22 = some (.slice 42) := rfl
set_option maxRecDepth 10000 in
theorem szDeed : tySize Tryz.prog 42 = some 39 := rfl
set_option maxRecDepth 10000 in
theorem nilDeeds (h : Hp) (p : Option Addr) (c : Nat) : lenQ Tryz.prog h 22 (.lit (.slice p 0 c)) = some (.lit (.int .i64 0), []) := rfl
theorem append_tak {Γ : Glob} {h : Hp} {lo bl nb : Nat} {v : SV} {l : List D} {d : D} (hr : RowIs h lo bl 42 39 v (l.map takC)) (hn : l.length ≤ 1000000) (hlo : lo ≤ h.next) (hnb : h.objs.get nb = some (.cells (takC d) 42)) :
    ∃ v' h', appendE Tryz.prog Γ h [22, 22] v (.slice nb 0 1 1) = some (v', h') ∧ RowIs h' lo h.next 42 39 v' ((l ++ [d]).map takC) ∧ h'.next = h.next + 1 ∧ ∀ b, b < h.next → (v = .lit (.slice none 0 0) ∨ b ≠ bl) → h'.objs.get b = h.objs.get b := by
  obtain ⟨i, z, hi, hz, hsz, hby, hzs⟩ := infoDeed
  have := append_one (Γ := Γ) tyDeeds hi hz hby (by omega) (by rw [hsz]; exact hzs) (by rw [hsz]; exact hr) (fun x hx => by obtain ⟨y, _, rfl⟩ := List.mem_map.1 hx; rw [hsz]; rfl) (c := takC d) (nb := nb) (by rw [hsz]; rfl) (takC_one d) (by rw [List.length_map]; omega) hlo hnb
  rw [hsz, show l.map takC ++ [takC d] = (l ++ [d]).map takC by rw [List.map_append]; rfl] at this
  exact this

theorem load_cell {P : Program} {Γ : Glob} {h : Hp} {t : TypeId} {b k : Nat} {cs : List SV} {e : TypeId} {v : SV} (ht : tyAgg P t = some false) (hb : h.objs.get b = some (.cells cs e)) (hv : cs[k]? = some v) : loadQ P Γ h t (.ptr b k) = some (v, [.cells b k [v]]) := by
  have hcut : cut cs k 1 = some [v] := by
    have : (cs.drop k).take 1 = [v] := by rw [List.take_one, List.head?_drop, hv]; rfl
    simp only [cut, this]; rfl
  simp only [loadQ, ht, readCells, knownCells, hb, Option.bind_some, hcut]
theorem load_cut {P : Program} {Γ : Glob} {h : Hp} {t : TypeId} {b k n : Nat} {cs vs : List SV} {e : TypeId} (ht : tyAgg P t = some true) (hs : tySize P t = some n) (hb : h.objs.get b = some (.cells cs e)) (hv : cut cs k n = some vs) : loadQ P Γ h t (.ptr b k) = some (.agg vs, [.cells b k vs]) := by
  simp only [loadQ, ht, hs, readCells, knownCells, hb, Option.bind_some, hv]
theorem load_row {P : Program} {Γ : Glob} {h : Hp} {t : TypeId} {b k n c cv z : Nat} {cs vs : List SV} {e : TypeId} (ht : tyAgg P t = some true) (hs : tySize P t = some n) (hb : h.objs.get b = some (.row cs e c cv z)) (hv : cut cs k n = some vs) : loadQ P Γ h t (.ptr b k) = some (.agg vs, [.cells b k vs]) := by
  simp only [loadQ, ht, hs, readCells, knownCells, hb, Option.bind_some, hv]

theorem kept_fresh {lo : Nat} {h H : Hp} (hlo : lo ≤ h.next) (g2 : ∀ b, b ≠ h.next → H.objs.get b = h.objs.get b) (g3 : H.next = h.next + 1) : Kept lo h H := ⟨by omega, fun b hb => g2 b (by omega)⟩
theorem lo_fresh {lo : Nat} {h H : Hp} (hlo : lo ≤ h.next) (g3 : H.next = h.next + 1) : lo ≤ H.next := by omega
theorem row_fresh {lo bl n : Nat} {e : TypeId} {h H : Hp} {v x : SV} {l : List (List SV)} (hr : RowIs h lo bl e n v l) (g2 : ∀ b, b ≠ h.next → H.objs.get b = h.objs.get b) (g3 : H.next = h.next + 1) (hx : x = v) : RowIs H lo bl e n x l := by
  rw [hx]
  exact hr.kept (by omega) fun hb _ => g2 bl (by omega)
theorem kept_tak {lo : Nat} {h H H2 : Hp} (hlo : lo ≤ h.next) (g2 : ∀ b, b ≠ h.next → H.objs.get b = h.objs.get b) (g3 : H.next = h.next + 1) (k2 : H2.next = H.next + 2) (k3 : ∀ b, b < lo → H2.objs.get b = H.objs.get b) : Kept lo h H2 := ⟨by omega, fun b hb => (k3 b hb).trans (g2 b (by omega))⟩
theorem row_at {lo bl n : Nat} {e : TypeId} {H : Hp} {v x : SV} {l : List (List SV)} (hr : RowIs H lo bl e n v l) (hx : x = v) : RowIs H lo bl e n x l := by rw [hx]; exact hr
/-- A list of deeds: its length is told, and each of its deeds can be read, as long as what lies ahead of lo is as it is. -/
def Lst (Γ : Glob) (lo : Nat) (h : Hp) (v : SV) (ds : List D) : Prop :=
  (∀ h', lenQ Tryz.prog h' 22 v = some (.lit (.int .i64 (Int.ofNat ds.length)), [])) ∧ ∀ k d, ds[k]? = some d → ∃ p c3 c4 c5 c6 rest, rest.length = 30 ∧ (deedC d c3 c4 c5 c6 rest).all SV.one = true ∧ indexAddrQ Tryz.prog 22 v (.lit (.int .i64 (Int.ofNat k))) = some p ∧
    ∀ h', Kept lo h h' → ∃ fs, loadQ Tryz.prog Γ h' 42 p = some (.agg (deedC d c3 c4 c5 c6 rest), fs)
theorem Lst.kept {Γ : Glob} {lo : Nat} {h h' : Hp} {v : SV} {ds : List D} (hl : Lst Γ lo h v ds) (hk : Kept lo h h') : Lst Γ lo h' v ds :=
  ⟨hl.1, fun k d hd => by
    obtain ⟨p, c3, c4, c5, c6, rest, h1, h2, h3, h4⟩ := hl.2 k d hd
    exact ⟨p, c3, c4, c5, c6, rest, h1, h2, h3, fun h'' hk' => h4 h'' (hk.trans hk')⟩⟩
theorem Lst.up {Γ : Glob} {lo lo' : Nat} {h h' : Hp} {v : SV} {ds : List D} (hl : Lst Γ lo h v ds) (hk : Kept lo h h') (hlo : lo ≤ lo') : Lst Γ lo' h' v ds :=
  ⟨hl.1, fun k d hd => by
    obtain ⟨p, c3, c4, c5, c6, rest, h1, h2, h3, h4⟩ := hl.2 k d hd
    exact ⟨p, c3, c4, c5, c6, rest, h1, h2, h3, fun h'' hk' => h4 h'' (hk.trans (hk'.less hlo))⟩⟩
end Go.Proofs.YtogagnopkkiniaaGreatDoor.gone
namespace Go.Proofs.YtogagnopkkiniaaGreatDoor.gone
open Go Go.Proofs.YtogagnopkkiniaaGreatDoor.Ev

theorem pureRun_bind {α β : Type} (P : Program) (s : Sem α) (f : α → Sem β) : pureRun P (s >>= f) = (pureRun P s).bind fun a => pureRun P (f a) := by
  show pureRun P (s.bind f) = _
  induction s with
  | pure a => rfl
  | program k ih => exact ih P
  | mark m k ih => exact ih
  | _ => rfl
theorem pureRun_pure {α : Type} (P : Program) (a : α) : pureRun P (pure a) = some a := rfl
noncomputable def idFs : Array Field := match Tryz.prog.underlying 24 with
  | some (.struct fs) => fs
  | _ => #[]
noncomputable def idF (i : Nat) : Field := match idFs[i]? with
  | some f => f
  | none => default
theorem idFs_eq : idFs = #[idF 0, idF 1] := by kernel_rfl
theorem idU : pureRun Tryz.prog (underlying 24) = some (.struct idFs) := by kernel_rfl
theorem idHeld : Tryz.prog.stoodInHeld 24 = false := by kernel_rfl
theorem idN0 : (decide ((idF 0).name ≠ "_")) = true := by kernel_rfl
theorem idN1 : (decide ((idF 1).name ≠ "_")) = true := by kernel_rfl
theorem idT0 : (idF 0).type = 3 := by kernel_rfl
theorem idT1 : (idF 1).type = 3 := by kernel_rfl
theorem idP0 (a b : Int) : pureRun Tryz.prog (part 3 #[.int .i64 a, .int .i64 b] (idF 0).offset) = some (.int .i64 a) := by kernel_rfl
theorem idP1 (a b : Int) : pureRun Tryz.prog (part 3 #[.int .i64 a, .int .i64 b] (idF 1).offset) = some (.int .i64 b) := by kernel_rfl
theorem intEqIn (a b : Int) : pureRun Tryz.prog (Op.equalIn 9999 3 (.int .i64 a) (.int .i64 b)) = some (a == b) := by kernel_rfl
set_option maxRecDepth 100000 in
theorem idEq (a b c d : Int) : pureRun Tryz.prog (Op.equal 24 (.agg #[.int .i64 a, .int .i64 b]) (.agg #[.int .i64 c, .int .i64 d])) = some ((a == c) && (b == d)) := by
  have n0 : (idF 0).name ≠ "_" := of_decide_eq_true idN0
  have n1 : (idF 1).name ≠ "_" := of_decide_eq_true idN1
  have hp : pureRun Tryz.prog program = some Tryz.prog := rfl
  show pureRun Tryz.prog (Op.equalIn (9999 + 1) 24 (.agg #[.int .i64 a, .int .i64 b]) (.agg #[.int .i64 c, .int .i64 d])) = _
  rw [Op.equalIn, pureRun_bind, idU]
  simp only [Option.bind_some]
  rw [pureRun_bind, hp]
  simp only [Option.bind_some, idHeld, Bool.false_eq_true, if_false]
  rw [pureRun_bind, idFs_eq, List.forIn_toArray]
  simp only [List.forIn_cons, List.forIn_nil]
  simp only [if_pos n0, if_pos n1, pureRun_bind, idP0, Option.bind_some, idT0, idT1, intEqIn]
  cases (a == c) with
  | false => rfl
  | true =>
    simp only [Bool.not_true, Bool.false_eq_true, if_false, pureRun_pure, Option.bind_some, pureRun_bind, idP1, intEqIn]
    cases (b == d) <;> rfl

/-- A map's entries: so many ids of one author. -/
def mapG (q : Int) (g : List Int) (i : Nat) : List (SV × SV × Nat) := g.zipIdx i |>.map fun x => (SV.agg (idC q x.1), SV.lit (.bool true), x.2)
theorem mapG_cons (q x : Int) (g : List Int) (i : Nat) : mapG q (x :: g) i = (SV.agg (idC q x), SV.lit (.bool true), i) :: mapG q g (i + 1) := by
  simp [mapG, List.zipIdx_cons]
theorem mapG_snoc (q x : Int) : ∀ (g : List Int) (i : Nat), mapG q (g ++ [x]) i = mapG q g i ++ [(SV.agg (idC q x), SV.lit (.bool true), i + g.length)]
  | [], i => by simp [mapG]
  | a :: g, i => by
    rw [List.cons_append, mapG_cons, mapG_cons, mapG_snoc q x g (i + 1), List.cons_append, List.length_cons, show i + 1 + g.length = i + (g.length + 1) by omega]
def idV (a n : Int) : Value := .agg #[.int .i64 a, .int .i64 n]
theorem idLit (a n : Int) : SV.toLit (.agg (idC a n)) = some (idV a n) := rfl
theorem find_no (q x : Int) : ∀ (g : List Int) (i j : Nat), x ∉ g → findQ Tryz.prog 24 (idV q x) (mapG q g i) j = some none
  | [], _, _, _ => rfl
  | a :: g, i, j, h => by
    have ha : (x == a) = false := beq_eq_false_iff_ne.2 fun e => h (by rw [e]; exact List.mem_cons_self ..)
    have hq := idEq q x q a
    rw [ha, Bool.and_false] at hq
    rw [mapG_cons]
    simp only [findQ, idLit]
    rw [show pureRun Tryz.prog (Op.equal 24 (idV q x) (idV q a)) = some false from hq]
    exact find_no q x g (i + 1) (j + 1) fun hm => h (List.mem_cons_of_mem _ hm)
theorem find_yes (q x : Int) : ∀ (g : List Int) (i j : Nat), x ∈ g → ∃ k, findQ Tryz.prog 24 (idV q x) (mapG q g i) j = some (some (j + k, .lit (.bool true))) ∧ (mapG q g i)[k]? = some (SV.agg (idC q x), SV.lit (.bool true), i + k)
  | [], _, _, h => by cases h
  | a :: g, i, j, h => by
    rw [mapG_cons]
    by_cases hx : x = a
    · subst hx
      have hq := idEq q x q x
      rw [beq_self_eq_true, beq_self_eq_true, Bool.and_self] at hq
      refine ⟨0, ?_, rfl⟩
      simp only [findQ, idLit]
      rw [show pureRun Tryz.prog (Op.equal 24 (idV q x) (idV q x)) = some true from hq]
      rfl
    · have hq := idEq q x q a
      rw [beq_eq_false_iff_ne.2 hx, Bool.and_false] at hq
      obtain ⟨k, h1, h2⟩ := find_yes q x g (i + 1) (j + 1) ((List.mem_cons.1 h).resolve_left hx)
      refine ⟨k + 1, ?_, ?_⟩
      · simp only [findQ, idLit]
        rw [show pureRun Tryz.prog (Op.equal 24 (idV q x) (idV q a)) = some false from hq]
        simp only [h1]
        rw [show j + 1 + k = j + (k + 1) by omega]
      · rw [List.getElem?_cons_succ, h2, show i + 1 + k = i + (k + 1) by omega]
theorem keyOk (e : Bool) (a n : Int) : pureRun Tryz.prog (Instr.checkKey e 10000 24 (idV a n)) = some () := by kernel_rfl
set_option maxRecDepth 10000 in
theorem tyMap : tyU Tryz.prog 66 = some (.map 24 4) := rfl
set_option maxRecDepth 10000 in
theorem zeroBool : tyZero Tryz.prog 4 = some (.bool false) := rfl
theorem lookupG {h : Hp} {M : Nat} {q x : Int} {g : List Int} {c : Bool} (hM : h.objs.get M = some (.map (mapG q g 0) g.length)) (hc : g.contains x = c) : lookupQ Tryz.prog h 66 (.map M) (.agg (idC q x)) false = some (.lit (.bool c), [.obj M (.map (mapG q g 0) g.length)]) := by
  by_cases hx : x ∈ g
  · obtain ⟨k, h1, _⟩ := find_yes q x g 0 0 hx
    obtain rfl : c = true := by rw [← hc]; simpa using hx
    simp only [lookupQ, tyMap, entriesQ, hM, idLit, keyOk, h1, cond_false]
  · obtain rfl : c = false := by rw [← hc]; simpa using hx
    simp only [lookupQ, tyMap, entriesQ, hM, idLit, keyOk, find_no q x g 0 0 hx, zeroBool, cond_false]
theorem setEntry_same : ∀ (es : List (SV × SV × Nat)) (i : Nat) (k v : SV) (c : Nat), es[i]? = some (k, v, c) → setEntry es i k v = es
  | [], _, _, _, _, h => by simp at h
  | e :: es, 0, k, v, c, h => by
    obtain rfl : e = (k, v, c) := by simpa using h
    rfl
  | e :: es, i + 1, k, v, c, h => by
    simp only [setEntry]
    rw [setEntry_same es i k v c (by simpa using h)]
theorem bitsId (a n : Int) : Instr.sameBits 10000 (idV a n) (idV a n) = true := by
  simp [idV, Instr.sameBits]
/-- One id more. -/
def addG (g : List Int) (x : Int) : List Int := if g.contains x then g else g ++ [x]
theorem updateG {h : Hp} {M : Nat} {q x : Int} {g : List Int} (hM : h.objs.get M = some (.map (mapG q g 0) g.length)) : mapUpdateE Tryz.prog h 66 (.map M) (.agg (idC q x)) (.lit (.bool true)) = some (h.upd M (.map (mapG q (addG g x) 0) (addG g x).length)) := by
  by_cases hx : x ∈ g
  · obtain ⟨k, h1, h2⟩ := find_yes q x g 0 0 hx
    have hc : g.contains x = true := by simpa using hx
    rw [Nat.zero_add] at h1
    have ht : ((mapG q g 0)[k]?).bind (fun e => e.1.toLit) = some (idV q x) := by rw [h2]; rfl
    simp only [mapUpdateE, tyMap, idLit, hM, keyOk, h1, ht, bitsId, cond_true]
    rw [setEntry_same _ k _ _ _ h2]
    simp only [addG, hc, if_true]
  · have hc : g.contains x = false := by simpa using hx
    simp only [mapUpdateE, tyMap, idLit, hM, keyOk, find_no q x g 0 0 hx]
    simp only [addG, hc, Bool.false_eq_true, if_false, mapG_snoc, Nat.zero_add, List.length_append, List.length_singleton]
theorem stepG_yes {g : List Int} {d : D} (h : g.contains d.n = true) : stepG g d = g := by simp only [stepG, h, if_true]
theorem stepG_no {g : List Int} {d : D} (h : g.contains d.n = false) : stepG g d = addG g d.tn := by
  simp only [stepG, h, Bool.false_eq_true, if_false, addG]

/-- A row's element. -/
theorem cut_flat {α : Type} {f : α → List SV} {n : Nat} (hf : ∀ x, (f x).length = n) : ∀ (l : List α) (k : Nat) (x : α), l[k]? = some x → cut ((l.map f).flatten) (k * n) n = some (f x)
  | [], _, _, h => by simp at h
  | a :: l, 0, x, h => by
    obtain rfl : a = x := by simpa using h
    have : (((f a) ++ (l.map f).flatten).drop (0 * n)).take n = f a := by
      rw [Nat.zero_mul, List.drop_zero, List.take_append_of_le_length (by rw [hf]; omega), List.take_of_length_le (by rw [hf]; omega)]
    rw [List.map_cons, List.flatten_cons]
    simp only [cut, this, hf, beq_t, cond_true]
  | a :: l, k + 1, x, h => by
    have ih := cut_flat hf l k x (by simpa using h)
    rw [List.map_cons, List.flatten_cons]
    simp only [cut] at ih ⊢
    rw [show ((f a ++ (l.map f).flatten).drop ((k + 1) * n)) = ((l.map f).flatten).drop (k * n) by
      rw [Nat.succ_mul, Nat.add_comm (k * n) n, ← List.drop_drop]
      rw [show (f a ++ (l.map f).flatten).drop n = (l.map f).flatten by rw [← hf a, List.drop_left]]]
    exact ih
theorem rowIdx {bl n k : Nat} (h : k < n) : indexAddrQ Tryz.prog 22 (.row bl 0 n n bl) (.lit (.int .i64 (Int.ofNat k))) = some (.ptr bl (k * 39)) := by
  simp only [indexAddrQ, tyDeeds, szDeed, idxQ]
  rw [show Nat.blt k n = true from Nat.ble_eq_true_of_le h, cond_true]
  simp only [Nat.zero_add]
end Go.Proofs.YtogagnopkkiniaaGreatDoor.gone
