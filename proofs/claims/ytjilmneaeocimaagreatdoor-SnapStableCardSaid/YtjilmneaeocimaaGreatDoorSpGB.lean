/-
  WHAT ONE HAS SEEN, AS A LIST: the plain law of 'counterpanelaw40.SnapLeast' and 'counterpanelaw40.SnapStable'; by the author of this claim. No program. | STEPS THAT THE RUNS OF THIS CLAIM SHARE: code's pieces, numbers, cells, an operation with many ends, a round; by the author of this claim, in the calculus of runs. | A MAP FROM NUMBERS TO NUMBERS: what is looked up, and what is put in; by the author of this claim, in the calculus of runs.
-/
import Derived.Test.YtjilmneaeocimaaGreatDoorEvGH
import Derived.Test.YtjilmneaeocimaaGreatDoorEvGJ
import Derived.Test.YtjilmneaeocimaaGreatDoorSpGA
import Derived.Test.YtjilmneaeocimaaGreatDoorProg
import Derived.KernelRfl
namespace Go.Proofs.YtjilmneaeocimaaGreatDoor.snap

/-- May an id be? -/
def May (p : Int × Int) : Prop := 1 ≤ p.1 ∧ p.1 ≤ 1000 ∧ 1 ≤ p.2
instance (p : Int × Int) : Decidable (May p) := by unfold May; infer_instance
/-- The number of an author; 0: there is none. -/
def val (l : List (Int × Int)) (a : Int) : Int := match l.find? (fun p => p.1 == a) with
  | some p => p.2
  | none => 0
/-- No bound on a number. -/
def Lim (_ : Int) : Prop := True
/-- Authors rise. -/
def Asc (r : List (Int × Int)) : Prop := r.Pairwise fun x y => x.1 < y.1
def Good (r : List (Int × Int)) : Prop := ∀ p ∈ r, May p ∧ Lim p.2
def keys (l : List (Int × Int)) : List Int := l.map (·.1)

theorem val_cons (p : Int × Int) (l : List (Int × Int)) (a : Int) : val (p :: l) a = if p.1 = a then p.2 else val l a := by
  unfold val
  rw [List.find?_cons]
  by_cases h : p.1 = a
  · rw [show (p.1 == a) = true from beq_iff_eq.2 h, if_pos h]
  · rw [show (p.1 == a) = false from beq_eq_false_iff_ne.2 h, if_neg h]
theorem val_nil (a : Int) : val [] a = 0 := rfl
theorem val_no : ∀ {l : List (Int × Int)} {a : Int}, a ∉ keys l → val l a = 0
  | [], _, _ => rfl
  | p :: l, a, h => by
    rw [val_cons, if_neg (fun e => h (by rw [← e]; exact List.mem_cons_self ..))]
    exact val_no fun hm => h (List.mem_cons_of_mem _ hm)
theorem val_mem : ∀ {l : List (Int × Int)}, (keys l).Nodup → ∀ {p : Int × Int}, p ∈ l → val l p.1 = p.2
  | [], _, _, h => by cases h
  | q :: l, hn, p, h => by
    have hn' : q.1 ∉ keys l ∧ (keys l).Nodup := List.nodup_cons.1 hn
    rw [val_cons]
    rcases List.mem_cons.1 h with rfl | h
    · rw [if_pos rfl]
    · have hne : q.1 ≠ p.1 := fun e => hn'.1 (by rw [e]; exact List.mem_map.2 ⟨p, h, rfl⟩)
      rw [if_neg hne]
      exact val_mem hn'.2 h
theorem mem_of_val : ∀ {l : List (Int × Int)} {a : Int}, val l a ≠ 0 → (a, val l a) ∈ l
  | [], _, h => absurd rfl h
  | p :: l, a, h => by
    rw [val_cons] at h ⊢
    by_cases e : p.1 = a
    · rw [if_pos e]
      have : (a, p.2) = p := by rw [← e]
      rw [this]
      exact List.mem_cons_self ..
    · rw [if_neg e] at h ⊢
      exact List.mem_cons_of_mem _ (mem_of_val h)

theorem Asc.nodup {r : List (Int × Int)} (h : Asc r) : (keys r).Nodup := by
  unfold keys List.Nodup
  rw [List.pairwise_map]
  exact h.imp fun hab => Int.ne_of_lt hab
theorem Asc.nodup' {r : List (Int × Int)} (h : Asc r) : r.Nodup := h.imp fun hab e => by rw [e] at hab; exact absurd hab (Int.lt_irrefl _)
/-- Two such lists of the same members are one. -/
theorem Asc.ext {r s : List (Int × Int)} (hr : Asc r) (hs : Asc s) (h : ∀ p, p ∈ r ↔ p ∈ s) : r = s := by
  have hp : r.Perm s := (List.perm_ext_iff_of_nodup hr.nodup' hs.nodup').2 h
  exact hp.eq_of_pairwise (fun a b _ _ h1 h2 => absurd (Int.lt_trans h1 h2) (Int.lt_irrefl _)) hr hs

/-- With one more. -/
def insR (r : List (Int × Int)) (p : Int × Int) : List (Int × Int) := r.filter (fun x => decide (x.1 < p.1)) ++ p :: r.filter (fun x => decide (p.1 < x.1))
theorem insR_mem {r : List (Int × Int)} {p q : Int × Int} : q ∈ insR r p ↔ q = p ∨ (q ∈ r ∧ q.1 ≠ p.1) := by
  simp only [insR, List.mem_append, List.mem_filter, List.mem_cons, decide_eq_true_eq]
  constructor
  · rintro (⟨h1, h2⟩ | rfl | ⟨h1, h2⟩)
    · exact .inr ⟨h1, by omega⟩
    · exact .inl rfl
    · exact .inr ⟨h1, by omega⟩
  · rintro (rfl | ⟨h1, h2⟩)
    · exact .inr (.inl rfl)
    · by_cases h : q.1 < p.1
      · exact .inl ⟨h1, h⟩
      · exact .inr (.inr ⟨h1, by omega⟩)
theorem insR_asc {r : List (Int × Int)} {p : Int × Int} (h : Asc r) : Asc (insR r p) := by
  unfold insR Asc
  rw [List.pairwise_append, List.pairwise_cons]
  refine ⟨h.filter _, ⟨fun x hx => ?_, h.filter _⟩, fun x hx y hy => ?_⟩
  · simpa using (List.mem_filter.1 hx).2
  · have h1 : x.1 < p.1 := by simpa using (List.mem_filter.1 hx).2
    rcases List.mem_cons.1 hy with rfl | hy
    · exact h1
    · have h2 : p.1 < y.1 := by simpa using (List.mem_filter.1 hy).2
      exact Int.lt_trans h1 h2
/-- Is it something new? -/
def isNew (r : List (Int × Int)) (p : Int × Int) : Bool := decide (May p) && decide (val r p.1 < p.2)
def addR (r : List (Int × Int)) (p : Int × Int) : List (Int × Int) := if isNew r p then insR r p else r
theorem addR_asc {r : List (Int × Int)} {p : Int × Int} (h : Asc r) : Asc (addR r p) := by
  unfold addR
  split
  · exact insR_asc h
  · exact h
theorem addR_good {r : List (Int × Int)} {p : Int × Int} (h : Good r) (hp : Lim p.2) : Good (addR r p) := by
  unfold addR
  split
  · rename_i hn
    simp only [isNew, Bool.and_eq_true, decide_eq_true_eq] at hn
    intro q hq
    rcases insR_mem.1 hq with rfl | ⟨h1, _⟩
    · exact ⟨hn.1, hp⟩
    · exact h q h1
  · exact h
/-- Was it seen? -/
def has (r : List (Int × Int)) (p : Int × Int) : Bool := decide (May p) && decide (p.2 ≤ val r p.1)
def covers (r s : List (Int × Int)) : Bool := s.all fun p => has r p
theorem covers_self {r : List (Int × Int)} (ha : Asc r) (hg : Good r) : covers r r = true := by
  simp only [covers, List.all_eq_true, has, Bool.and_eq_true, decide_eq_true_eq]
  intro p hp
  exact ⟨(hg p hp).1, by rw [val_mem ha.nodup hp]; exact Int.le_refl _⟩

/-- What both have seen. -/
def minR (q r : List (Int × Int)) : List (Int × Int) := r.filterMap fun p => if 0 < val q p.1 then some (p.1, min (val q p.1) p.2) else none
theorem minR_mem {q r : List (Int × Int)} {x : Int × Int} : x ∈ minR q r ↔ ∃ p ∈ r, 0 < val q p.1 ∧ x = (p.1, min (val q p.1) p.2) := by
  simp only [minR, List.mem_filterMap]
  constructor
  · rintro ⟨p, hp, h⟩
    split at h
    · rename_i h0
      exact ⟨p, hp, h0, (Option.some.inj h).symm⟩
    · cases h
  · rintro ⟨p, hp, h0, rfl⟩
    exact ⟨p, hp, by rw [if_pos h0]⟩
theorem minR_asc {q r : List (Int × Int)} (h : Asc r) : Asc (minR q r) := by
  unfold minR Asc
  rw [List.pairwise_filterMap]
  refine h.imp fun {x y} hxy u hu v hv => ?_
  split at hu
  · split at hv
    · cases hu
      cases hv
      exact hxy
    · cases hv
  · cases hu
theorem val_eq_iff {r : List (Int × Int)} (ha : Asc r) (_hg : Good r) {a n : Int} (hn : n ≠ 0) : val r a = n ↔ (a, n) ∈ r := by
  constructor
  · rintro rfl
    exact mem_of_val hn
  · intro h
    exact val_mem ha.nodup h
theorem minR_good {q r : List (Int × Int)} (hg : Good r) : Good (minR q r) := by
  intro x hx
  obtain ⟨p, hp, h0, rfl⟩ := minR_mem.1 hx
  obtain ⟨⟨h1, h2, h3⟩, h4⟩ := hg p hp
  refine ⟨⟨h1, h2, ?_⟩, ?_⟩
  · show 1 ≤ min (val q p.1) p.2
    omega
  · exact trivial
/-- By authors: the less of both numbers. -/
theorem val_nonneg {r : List (Int × Int)} (hg : Good r) (a : Int) : 0 ≤ val r a := by
  by_cases h : val r a = 0
  · omega
  · have := (hg _ (mem_of_val h)).1.2.2
    simp at this
    omega
theorem minR_val {q r : List (Int × Int)} (hq : Good q) (ha : Asc r) (hr : Good r) (a : Int) : val (minR q r) a = min (val q a) (val r a) := by
  have h0 := val_nonneg hq a
  by_cases hra : val r a = 0
  · have : a ∉ keys (minR q r) := fun hm => by
      obtain ⟨x, hx, rfl⟩ := List.mem_map.1 hm
      obtain ⟨p, hp, _, rfl⟩ := minR_mem.1 hx
      have e := val_mem ha.nodup hp
      have := (hr p hp).1.2.2
      simp at hra
      omega
    rw [val_no this]
    omega
  · have hm := mem_of_val hra
    have hpos := (hr _ hm).1.2.2
    simp at hpos
    by_cases hqa : 0 < val q a
    · have : (a, min (val q a) (val r a)) ∈ minR q r := minR_mem.2 ⟨_, hm, hqa, rfl⟩
      exact val_mem (minR_asc ha).nodup this
    · have : a ∉ keys (minR q r) := fun hm => by
        obtain ⟨x, hx, rfl⟩ := List.mem_map.1 hm
        obtain ⟨p, hp, h1, rfl⟩ := minR_mem.1 hx
        exact hqa h1
      rw [val_no this]
      omega
/-- Two that have the same numbers are one. -/
theorem ext_val {r s : List (Int × Int)} (hr : Asc r) (hs : Asc s) (gr : Good r) (gs : Good s) (h : ∀ a, val r a = val s a) : r = s := by
  refine hr.ext hs fun p => ?_
  constructor
  · intro hp
    have e := val_mem hr.nodup hp
    have := (gr p hp).1.2.2
    rw [h] at e
    have hm := mem_of_val (l := s) (a := p.1) (by omega)
    rw [e] at hm
    exact hm
  · intro hp
    have e := val_mem hs.nodup hp
    have := (gs p hp).1.2.2
    rw [← h] at e
    have hm := mem_of_val (l := r) (a := p.1) (by omega)
    rw [e] at hm
    exact hm
theorem minR_comm {r s : List (Int × Int)} (hr : Asc r) (hs : Asc s) (gr : Good r) (gs : Good s) : minR r s = minR s r :=
  ext_val (minR_asc hs) (minR_asc hr) (minR_good gs) (minR_good gr) fun a => by
    rw [minR_val gr hs gs, minR_val gs hr gr, Int.min_comm]
theorem minR_self {r : List (Int × Int)} (hr : Asc r) (gr : Good r) : minR r r = r :=
  ext_val (minR_asc hr) hr (minR_good gr) gr fun a => by
    rw [minR_val gr hr gr, Int.min_self]
/-- What all of some have seen. -/
def stable : List (List (Int × Int)) → List (Int × Int)
  | [] => []
  | r :: l => l.foldl minR r
theorem fold_asc : ∀ (l : List (List (Int × Int))) (r : List (Int × Int)), Asc r → (∀ s ∈ l, Asc s) → Asc (l.foldl minR r)
  | [], _, h, _ => h
  | s :: l, r, _, hl => fold_asc l (minR r s) (minR_asc (hl s (List.mem_cons_self ..))) fun x hx => hl x (List.mem_cons_of_mem _ hx)
theorem fold_good : ∀ (l : List (List (Int × Int))) (r : List (Int × Int)), Good r → (∀ s ∈ l, Good s) → Good (l.foldl minR r)
  | [], _, h, _ => h
  | s :: l, r, _, hl => fold_good l (minR r s) (minR_good (hl s (List.mem_cons_self ..))) fun x hx => hl x (List.mem_cons_of_mem _ hx)
/-- By authors: the least number. -/
def least (l : List (List (Int × Int))) (a n : Int) : Int := l.foldl (fun m s => min m (val s a)) n
theorem fold_val : ∀ (l : List (List (Int × Int))) (r : List (Int × Int)) (a : Int), Asc r → Good r → (∀ s ∈ l, Asc s ∧ Good s) → val (l.foldl minR r) a = least l a (val r a)
  | [], _, _, _, _, _ => rfl
  | s :: l, r, a, hr, gr, hl => by
    obtain ⟨h1, h2⟩ := hl s (List.mem_cons_self ..)
    rw [List.foldl_cons, fold_val l (minR r s) a (minR_asc h1) (minR_good h2) fun x hx => hl x (List.mem_cons_of_mem _ hx), minR_val gr h1 h2]
    rfl

/-- All put into an empty one, in whatever order. -/
theorem put_all {q : List (Int × Int)} (hq : Asc q) (gq : Good q) : ∀ (π : List (Int × Int)) (r : List (Int × Int)), Asc r → (∀ p ∈ π, p ∈ q) → (∀ p ∈ r, p ∈ q) → Asc (π.foldl addR r) ∧ ∀ p, p ∈ π.foldl addR r ↔ p ∈ r ∨ p ∈ π
  | [], r, hr, _, _ => ⟨hr, fun p => by simp⟩
  | x :: π, r, hr, h1, h2 => by
    have hx : x ∈ q := h1 x (List.mem_cons_self ..)
    have hmem : ∀ p, p ∈ addR r x ↔ p ∈ r ∨ p = x := by
      intro p
      unfold addR
      by_cases hv : val r x.1 < x.2
      · have hn : isNew r x = true := by simp only [isNew, Bool.and_eq_true, decide_eq_true_eq]; exact ⟨(gq x hx).1, hv⟩
        rw [if_pos hn, insR_mem]
        constructor
        · rintro (h | ⟨h, _⟩)
          · exact .inr h
          · exact .inl h
        · rintro (h | h)
          · by_cases e : p.1 = x.1
            · refine .inl ?_
              have e1 := val_mem hq.nodup (h2 p h)
              have e2 := val_mem hq.nodup hx
              rw [e] at e1
              exact Prod.ext e (by omega)
            · exact .inr ⟨h, e⟩
          · exact .inl h
      · have hn : ¬ isNew r x = true := by
          simp only [isNew, Bool.and_eq_true, decide_eq_true_eq]
          exact fun h => hv h.2
        rw [if_neg hn]
        constructor
        · exact .inl
        · rintro (h | rfl)
          · exact h
          · have := (gq p hx).1.2.2
            have hm := mem_of_val (l := r) (a := p.1) (by omega)
            have e1 := val_mem hq.nodup (h2 _ hm)
            have e2 := val_mem hq.nodup hx
            simp at e1
            rw [← e1, e2] at hm
            exact hm
    obtain ⟨k1, k2⟩ := put_all hq gq π (addR r x) (addR_asc hr) (fun p hp => h1 p (List.mem_cons_of_mem _ hp)) (fun p hp => by
      rcases (hmem p).1 hp with h | rfl
      · exact h2 p h
      · exact hx)
    refine ⟨k1, fun p => ?_⟩
    rw [List.foldl_cons, k2, hmem, List.mem_cons]
    constructor
    · rintro ((h | h) | h)
      · exact .inl h
      · exact .inr (.inl h)
      · exact .inr (.inr h)
    · rintro (h | h | h)
      · exact .inl (.inl h)
      · exact .inl (.inr h)
      · exact .inr h
theorem put_perm {q π : List (Int × Int)} (hq : Asc q) (gq : Good q) (h : π.Perm q) : π.foldl addR [] = q := by
  obtain ⟨h1, h2⟩ := put_all hq gq π [] List.Pairwise.nil (fun p hp => h.mem_iff.1 hp) (fun p hp => by cases hp)
  exact h1.ext hq fun p => by rw [h2]; simp [h.mem_iff]
end Go.Proofs.YtjilmneaeocimaaGreatDoor.snap
namespace Go.Proofs.YtjilmneaeocimaaGreatDoor.snap
open Go Go.Proofs.YtjilmneaeocimaaGreatDoor.Ev

def seqL : Code → Code
  | .seq a _ => a
  | c => c
def seqR : Code → Code
  | .seq _ b => b
  | c => c
def inBlk : Code → Code
  | .block _ c => c
  | c => c
def inLoop : Code → Code
  | .loop c => c
  | c => c
def condL : Code → Code
  | .cond _ a _ => a
  | c => c
def condR : Code → Code
  | .cond _ _ b => b
  | c => c
def opsOf : Code → Array Oper
  | .region _ ops _ => ops
  | _ => #[]
def bodyOf (f : Func) : Code := match f.body with
  | some c => c
  | none => .skip



theorem lssT {x y : Operand} {a b : Int} (h : a < b) : binQ Tryz.prog .lss 3 x y (.lit (.int .i64 a)) (.lit (.int .i64 b)) = some (.lit (.bool true)) := by
  show some (SV.lit (.bool (decide (a < b)))) = _
  rw [decide_eq_true h]
theorem lssF {x y : Operand} {a b : Int} (h : ¬ a < b) : binQ Tryz.prog .lss 3 x y (.lit (.int .i64 a)) (.lit (.int .i64 b)) = some (.lit (.bool false)) := by
  show some (SV.lit (.bool (decide (a < b)))) = _
  rw [decide_eq_false h]
theorem leqT {x y : Operand} {a b : Int} (h : a ≤ b) : binQ Tryz.prog .leq 3 x y (.lit (.int .i64 a)) (.lit (.int .i64 b)) = some (.lit (.bool true)) := by
  show some (SV.lit (.bool (decide (a ≤ b)))) = _
  rw [decide_eq_true h]
theorem leqF {x y : Operand} {a b : Int} (h : ¬ a ≤ b) : binQ Tryz.prog .leq 3 x y (.lit (.int .i64 a)) (.lit (.int .i64 b)) = some (.lit (.bool false)) := by
  show some (SV.lit (.bool (decide (a ≤ b)))) = _
  rw [decide_eq_false h]
theorem gtrT {x y : Operand} {a b : Int} (h : b < a) : binQ Tryz.prog .gtr 3 x y (.lit (.int .i64 a)) (.lit (.int .i64 b)) = some (.lit (.bool true)) := by
  show some (SV.lit (.bool (decide (a > b)))) = _
  rw [decide_eq_true h]
theorem gtrF {x y : Operand} {a b : Int} (h : ¬ b < a) : binQ Tryz.prog .gtr 3 x y (.lit (.int .i64 a)) (.lit (.int .i64 b)) = some (.lit (.bool false)) := by
  show some (SV.lit (.bool (decide (a > b)))) = _
  rw [decide_eq_false h]
theorem eqlT {x y : Operand} {a b : Int} (h : a = b) : binQ Tryz.prog .eql 3 x y (.lit (.int .i64 a)) (.lit (.int .i64 b)) = some (.lit (.bool true)) := by
  show some (SV.lit (.bool (a == b))) = _
  rw [beq_iff_eq.2 h]
theorem eqlF {x y : Operand} {a b : Int} (h : a ≠ b) : binQ Tryz.prog .eql 3 x y (.lit (.int .i64 a)) (.lit (.int .i64 b)) = some (.lit (.bool false)) := by
  show some (SV.lit (.bool (a == b))) = _
  rw [beq_eq_false_iff_ne.2 h]
theorem neqT {x y : Operand} {a b : Int} (h : a ≠ b) : binQ Tryz.prog .neq 3 x y (.lit (.int .i64 a)) (.lit (.int .i64 b)) = some (.lit (.bool true)) := by
  show some (SV.lit (.bool (!(a == b)))) = _
  rw [beq_eq_false_iff_ne.2 h]; rfl
theorem neqF {x y : Operand} {a b : Int} (h : a = b) : binQ Tryz.prog .neq 3 x y (.lit (.int .i64 a)) (.lit (.int .i64 b)) = some (.lit (.bool false)) := by
  show some (SV.lit (.bool (!(a == b)))) = _
  rw [beq_iff_eq.2 h]; rfl
theorem wrap_in {z : Int} (h1 : -9223372036854775808 ≤ z) (h2 : z < 9223372036854775808) : IntKind.i64.wrap z = z := by
  have h64 : (2 : Int) ^ 64 = 18446744073709551616 := by decide
  have h63 : (2 : Int) ^ (64 - 1) = 9223372036854775808 := by decide
  simp only [IntKind.wrap, IntKind.signed, IntKind.bits, h64, h63]
  by_cases hz : 0 ≤ z
  · rw [Int.emod_eq_of_lt hz (by omega)]
    simp [show ¬ (z ≥ 9223372036854775808) by omega]
  · have e : z % 18446744073709551616 = z + 18446744073709551616 := by omega
    rw [e]
    simp [show z + 18446744073709551616 ≥ 9223372036854775808 by omega]
theorem geqT {x y : Operand} {a b : Int} (h : b ≤ a) : binQ Tryz.prog .geq 3 x y (.lit (.int .i64 a)) (.lit (.int .i64 b)) = some (.lit (.bool true)) := by
  show some (SV.lit (.bool (decide (a ≥ b)))) = _
  rw [decide_eq_true h]
theorem geqF {x y : Operand} {a b : Int} (h : ¬ b ≤ a) : binQ Tryz.prog .geq 3 x y (.lit (.int .i64 a)) (.lit (.int .i64 b)) = some (.lit (.bool false)) := by
  show some (SV.lit (.bool (decide (a ≥ b)))) = _
  rw [decide_eq_false h]
theorem addQ {x y : Operand} {a b c : Int} (h : a + b = c) (h1 : -9223372036854775808 ≤ c) (h2 : c < 9223372036854775808) : binQ Tryz.prog .add 3 x y (.lit (.int .i64 a)) (.lit (.int .i64 b)) = some (.lit (.int .i64 c)) := by
  show some (SV.lit (.int .i64 (IntKind.i64.wrap (a + b)))) = _
  rw [h, wrap_in h1 h2]

def rngA : Code → Code
  | .rangeFunc _ _ a _ => a
  | c => c
def rngB : Code → Code
  | .rangeFunc _ _ _ b => b
  | c => c
theorem load_cell {P : Program} {Γ : Glob} {h : Hp} {t : TypeId} {b k : Nat} {cs : List SV} {e : TypeId} {v : SV} (ht : tyAgg P t = some false) (hb : h.objs.get b = some (.cells cs e)) (hv : cs[k]? = some v) : loadQ P Γ h t (.ptr b k) = some (v, [.cells b k [v]]) := by
  have hcut : cut cs k 1 = some [v] := by
    have : (cs.drop k).take 1 = [v] := by rw [List.take_one, List.head?_drop, hv]; rfl
    simp only [cut, this]; rfl
  simp only [loadQ, ht, readCells, knownCells, hb, Option.bind_some, hcut]
theorem load_cut {P : Program} {Γ : Glob} {h : Hp} {t : TypeId} {b k n : Nat} {cs vs : List SV} {e : TypeId} (ht : tyAgg P t = some true) (hs : tySize P t = some n) (hb : h.objs.get b = some (.cells cs e)) (hv : cut cs k n = some vs) : loadQ P Γ h t (.ptr b k) = some (.agg vs, [.cells b k vs]) := by
  simp only [loadQ, ht, hs, readCells, knownCells, hb, Option.bind_some, hv]
theorem load_row {P : Program} {Γ : Glob} {h : Hp} {t : TypeId} {b k n c cv z : Nat} {cs vs : List SV} {e : TypeId} (ht : tyAgg P t = some true) (hs : tySize P t = some n) (hb : h.objs.get b = some (.row cs e c cv z)) (hv : cut cs k n = some vs) : loadQ P Γ h t (.ptr b k) = some (.agg vs, [.cells b k vs]) := by
  simp only [loadQ, ht, hs, readCells, knownCells, hb, Option.bind_some, hv]


section
variable {P : Program} {Γ : Glob} {ops : Array Oper} {o : Oper} {l : List Oper} {tm : T SV} {n d : Nat} {ms : List Nat} {hp : Hp} {Φ : Out → Prop}
/-- One that may come to many things. -/
theorem ops_many {outs : List (SV × Hp)} (hw : wantedQ ops ⟨tm, n, ms⟩ o = some true) (hq : quiet P Γ hp (Fr.ev ⟨tm, n, ms⟩) o.op = none) (hc : calleeOf (Fr.ev ⟨tm, n, ms⟩) o.op = none) (he : effect P Γ hp (Fr.ev ⟨tm, n, ms⟩) o.op = some outs) (hn : ∀ r ∈ outs, hp.next ≤ r.2.next) (hd : o.dst = some d) (hb : Nat.blt d n = true)
    (h : ∀ r ∈ outs, RunsOps P Γ ops l ⟨tm.set d r.1, n, ms⟩ r.2 Φ) : RunsOps P Γ ops (o :: l) ⟨tm, n, ms⟩ hp Φ := by
  refine ops_cons (Ends.bind (g := fun _ (r : SV × Hp) => some [((⟨tm.set d r.1, n, ms⟩ : Fr), r.2)]) (Φ := fun r => r ∈ outs) ⟨0, outs, fun _ _ => rfl, fun _ h => h⟩ (fun r hr => Ends.one (fun _ => rfl) (h r hr)) fun k xs hxs => ?_)
  obtain rfl := Option.some.inj hxs
  have hall : outs.all (fun r => Nat.ble hp.next r.2.next) = true := List.all_eq_true.2 fun r hr => Nat.ble_eq_true_of_le (hn r hr)
  simp only [oper, hw, hq, loud, hc, he, hall, cond_true]
  congr 1
  funext r
  rw [put_slot hd hb]
  rfl
/-- A call of yield. -/
theorem ops_yield {b : Nat} {args : List SV} (hw : wantedQ ops ⟨tm, n, ms⟩ o = some true) (hq : quiet P Γ hp (Fr.ev ⟨tm, n, ms⟩) o.op = none) (hc : calleeOf (Fr.ev ⟨tm, n, ms⟩) o.op = some (.round b args)) (hd : o.dst = some d) (hb : Nat.blt d n = true)
    (h : Runs P Γ (.round b args hp) fun r => RunsOps P Γ ops l ⟨tm.set d r.v, n, ms⟩ r.hp Φ) : RunsOps P Γ ops (o :: l) ⟨tm, n, ms⟩ hp Φ := by
  refine ops_cons (Ends.bind (g := fun _ (r : Out) => some [((⟨tm.set d r.v, n, ms⟩ : Fr), r.hp)]) h (fun r hr => Ends.one (fun _ => rfl) hr) fun k xs hxs => ?_)
  have hxs : runO P Γ theMem k (.round b args hp) = some xs := hxs
  simp only [oper, hw, hq, loud, hc, hxs, Option.map_some]
  rw [allOf_map]
  congr 1
  funext r
  rw [put_slot hd hb]
  rfl
/-- A round: its variables are given, and its body is run. -/
theorem runs_round {b : Nat} {args : List SV} {x : ALoop} {fr : Fr} (hb : hp.objs.get b = some (.loop x)) (hl : Nat.beq args.length x.params.size = true) (hs : setAll (x.params.toList.zip args) ⟨x.tmps, x.sz, []⟩ = some fr)
    (h : Runs P Γ (.code x.assign (some b) fr hp) fun o => ∃ y, o.exit = .normal ∧ o.hp.objs.get b = some (.loop y) ∧ y.state = .ready ∧ Runs P Γ (.code x.body (some b) o.fr (o.hp.upd b (.loop { y with state := .busy }))) fun o2 => ∃ r, roundEnd b o2 = some [r] ∧ Φ r) :
    Runs P Γ (.round b args hp) Φ := by
  refine Runs.step (Ends.bind (g := fun k o => roundBody (runO P Γ theMem k) b x.body o) h (fun o ho => ?_) fun k xs hxs => ?_)
  · obtain ⟨y, h1, h2, h3, h4⟩ := ho
    refine Ends.bind (g := fun _ o2 => roundEnd b o2) h4 (fun o2 ⟨r, h5, h6⟩ => Ends.one (fun _ => h5) h6) fun k xs hxs => ?_
    have hxs : runO P Γ theMem k (.code x.body (some b) o.fr (o.hp.upd b (.loop { y with state := .busy }))) = some xs := hxs
    simp only [roundBody, h1, h2, h3, hxs]
  · have hxs : runO P Γ theMem k (.code x.assign (some b) fr hp) = some xs := hxs
    simp only [stepO, stepTask, hb, hl, cond_true, hs, hxs]
end

/-! ### what stays -/
/-- A block holds this. -/
structure At (h : Hp) (b : Nat) (o : AObj) : Prop where
  lt : b < h.next
  get : h.objs.get b = some o
theorem At.kept {h H : Hp} {b : Nat} {o : AObj} (a : At h b o) (k : Kept h.next h H) : At H b o := ⟨Nat.lt_of_lt_of_le a.lt k.next, (k.old b a.lt).trans a.get⟩
theorem At.keptLo {h H : Hp} {b lo : Nat} {o : AObj} (a : At h b o) (k : Kept lo h H) (hb : b < lo) : At H b o := ⟨Nat.lt_of_lt_of_le a.lt k.next, (k.old b hb).trans a.get⟩
theorem _root_.Go.Proofs.YtjilmneaeocimaaGreatDoor.Ev.Kept.then {a b c : Hp} (h : Kept a.next a b) (h' : Kept b.next b c) : Kept a.next a c := h.trans (h'.less h.next)
theorem kept_new {h H : Hp} (j : ∀ b, b ≠ h.next → H.objs.get b = h.objs.get b) (n : H.next = h.next + 1) : Kept h.next h H := ⟨by omega, fun b hb => j b (Nat.ne_of_lt hb)⟩
theorem at_new {h H : Hp} {o : AObj} (g : H.objs.get h.next = some o) (n : H.next = h.next + 1) : At H h.next o := ⟨by omega, g⟩
section
variable {P : Program} {Γ : Glob} {ops : Array Oper} {o : Oper} {l : List Oper} {tm : T SV} {n d : Nat} {ms : List Nat} {hp : Hp} {Φ : Out → Prop}
/-- A new block for a value. -/
theorem ops_box {e : TypeId} {x : Operand} {cs : List SV} (w1 : wantedQ ops ⟨tm, n, ms⟩ o = some true) (h1 : o.op = .box e x) (hx : (Fr.ev ⟨tm, n, ms⟩ x).cells = cs) (hd : o.dst = some d) (hn : Nat.blt d n = true)
    (k : ∀ H, At H hp.next (.cells cs e) → Kept hp.next hp H → H.next = hp.next + 1 → RunsOps P Γ ops l ⟨tm.set d (.ptr hp.next 0), n, ms⟩ H Φ) : RunsOps P Γ ops (o :: l) ⟨tm, n, ms⟩ hp Φ := by
  refine ops_e (v := .ptr hp.next 0) (hp' := ⟨hp.objs.set hp.next (.cells cs e), hp.next + 1⟩) w1 (by rw [h1]; rfl) (by rw [h1]; rfl) (by rw [h1, ← hx]; rfl) (Nat.le_succ _) hd hn ?_
  exact k _ ⟨Nat.lt_succ_self _, get_same⟩ ⟨Nat.le_succ _, fun b hb => get_ne (Nat.ne_of_lt hb)⟩ rfl
/-- A new block of zeros. -/
theorem ops_alloc {e : TypeId} {z : Value} (w1 : wantedQ ops ⟨tm, n, ms⟩ o = some true) (h1 : o.op = .alloc e) (hz : tyZero P e = some z) (hd : o.dst = some d) (hn : Nat.blt d n = true)
    (k : ∀ H, At H hp.next (.cells (SV.cells (.lit z)) e) → Kept hp.next hp H → H.next = hp.next + 1 → RunsOps P Γ ops l ⟨tm.set d (.ptr hp.next 0), n, ms⟩ H Φ) : RunsOps P Γ ops (o :: l) ⟨tm, n, ms⟩ hp Φ := by
  refine ops_e (v := .ptr hp.next 0) (hp' := ⟨hp.objs.set hp.next (.cells (SV.cells (.lit z)) e), hp.next + 1⟩) w1 (by rw [h1]; rfl) (by rw [h1]; rfl) (by rw [h1]; simp only [effect, hz, Option.map_some]; rfl) (Nat.le_succ _) hd hn ?_
  exact k _ ⟨Nat.lt_succ_self _, get_same⟩ ⟨Nat.le_succ _, fun b hb => get_ne (Nat.ne_of_lt hb)⟩ rfl
/-- A new block, and what is put there. -/
theorem ops_newA {o2 : Oper} {e : TypeId} {z : Value} {cs : List SV} {m : Nat} {x : Operand} (w1 : wantedQ ops ⟨tm, n, ms⟩ o = some true) (h1 : o.op = .alloc e) (hz : tyZero P e = some z) (hd : o.dst = some d) (hn : Nat.blt d n = true)
    (w2 : wantedQ ops ⟨tm.set d (.ptr hp.next 0), n, ms⟩ o2 = some true) (h2 : o2.op = .store e (.tmp d) x) (p2 : o2.dst = none) (hx : (Fr.ev ⟨tm.set d (.ptr hp.next 0), n, ms⟩ x).cells = cs) (hs : tySize P e = some m) (hzl : (SV.cells (.lit z)).length = m) (hl : cs.length = m) (hone : cs.all SV.one = true)
    (k : ∀ H, At H hp.next (.cells cs e) → Kept hp.next hp H → H.next = hp.next + 1 → RunsOps P Γ ops l ⟨tm.set d (.ptr hp.next 0), n, ms⟩ H Φ) : RunsOps P Γ ops (o :: o2 :: l) ⟨tm, n, ms⟩ hp Φ := by
  refine ops_e (v := .ptr hp.next 0) (hp' := ⟨hp.objs.set hp.next (.cells (SV.cells (.lit z)) e), hp.next + 1⟩) w1 (by rw [h1]; rfl) (by rw [h1]; rfl) (by rw [h1]; simp only [effect, hz, Option.map_some]; rfl) (Nat.le_succ _) hd hn ?_
  refine ops_e0 (v := .lit undef) (hp' := ⟨(hp.objs.set hp.next (.cells (SV.cells (.lit z)) e)).set hp.next (.cells cs e), hp.next + 1⟩) w2 (by rw [h2]; rfl) (by rw [h2]; rfl) ?_ (Nat.le_refl _) p2 ?_
  · rw [h2]
    exact store_eff hs (by rw [ev_set, if_pos rfl]) rfl (by rw [hx]; exact hl) (by show (hp.objs.set _ _).get _ = _; rw [T.get_set, if_pos rfl]) (by rw [hx]; exact splice_whole (by rw [hzl]; exact hl.symm) hone)
  · exact k _ ⟨Nat.lt_succ_self _, get_same⟩ ⟨Nat.le_succ _, fun b hb => (get_ne (Nat.ne_of_lt hb)).trans (get_ne (Nat.ne_of_lt hb))⟩ rfl
/-- A slice literal. -/
theorem ops_bsl {t e : TypeId} {k : Nat} {parts : Array (Nat × Operand)} {cs : List SV} (w1 : wantedQ ops ⟨tm, n, ms⟩ o = some true) (h1 : o.op = .buildSlice t k parts) (hb : buildSliceE P hp t k (parts.toList.map fun p => (p.1, Fr.ev ⟨tm, n, ms⟩ p.2)) = some (.slice hp.next 0 k k, ⟨hp.objs.set hp.next (.cells cs e), hp.next + 1⟩)) (hd : o.dst = some d) (hn : Nat.blt d n = true)
    (kk : ∀ H, At H hp.next (.cells cs e) → Kept hp.next hp H → H.next = hp.next + 1 → RunsOps P Γ ops l ⟨tm.set d (.slice hp.next 0 k k), n, ms⟩ H Φ) : RunsOps P Γ ops (o :: l) ⟨tm, n, ms⟩ hp Φ := by
  refine ops_e (v := .slice hp.next 0 k k) (hp' := ⟨hp.objs.set hp.next (.cells cs e), hp.next + 1⟩) w1 (by rw [h1]; rfl) (by rw [h1]; rfl) (by rw [h1]; exact congrArg Ev.val hb) (Nat.le_succ _) hd hn ?_
  exact kk _ ⟨Nat.lt_succ_self _, get_same⟩ ⟨Nat.le_succ _, fun b hb => get_ne (Nat.ne_of_lt hb)⟩ rfl
/-- A new map. -/
theorem ops_mkmap {t kt et : TypeId} (w1 : wantedQ ops ⟨tm, n, ms⟩ o = some true) (h1 : o.op = .makeMap t none) (ht : tyU P t = some (.map kt et)) (hd : o.dst = some d) (hn : Nat.blt d n = true)
    (k : ∀ H, At H hp.next (.map [] 0) → Kept hp.next hp H → H.next = hp.next + 1 → RunsOps P Γ ops l ⟨tm.set d (.map hp.next), n, ms⟩ H Φ) : RunsOps P Γ ops (o :: l) ⟨tm, n, ms⟩ hp Φ := by
  refine ops_e (v := .map hp.next) (hp' := ⟨hp.objs.set hp.next (.map [] 0), hp.next + 1⟩) w1 (by rw [h1]; rfl) (by rw [h1]; rfl) (by rw [h1]; simp only [effect, ht]; rfl) (Nat.le_succ _) hd hn ?_
  exact k _ ⟨Nat.lt_succ_self _, get_same⟩ ⟨Nat.le_succ _, fun b hb => get_ne (Nat.ne_of_lt hb)⟩ rfl
/-- A copy of a map. -/
theorem ops_clone {f : FuncId} {args : List SV} {v : SV} {hp' : Hp} (hw : wantedQ ops ⟨tm, n, ms⟩ o = some true) (hq : quiet P Γ hp (Fr.ev ⟨tm, n, ms⟩) o.op = none) (hc : calleeOf (Fr.ev ⟨tm, n, ms⟩) o.op = some (.fn f args)) (hcl : cloneE P hp f args = some (v, hp')) (hd : o.dst = some d) (hn : Nat.blt d n = true)
    (h : RunsOps P Γ ops l ⟨tm.set d v, n, ms⟩ hp' Φ) : RunsOps P Γ ops (o :: l) ⟨tm, n, ms⟩ hp Φ :=
  ops_cons (Ends.one (x := (⟨tm.set d v, n, ms⟩, hp')) (fun k => by
    simp only [oper, hw, hq, loud, hc, hcl, allOf, put_slot hd hn, Option.map_some]
    rfl) h)
end
theorem clone_two {P : Program} {h : Hp} {f : FuncId} {a b : SV} : cloneE P h f [a, b] = none := by
  unfold cloneE
  split
  · rename_i hh
    simp at hh
  · rfl
theorem clone_body {P : Program} {h : Hp} {f : FuncId} {args : List SV} {fn : Func} (hf : P.funcs[f]? = some fn) (hb : fn.body.isNone = false) : cloneE P h f args = none := by
  unfold cloneE
  split
  · rename_i fn' t b hfn
    rw [hf] at hfn
    obtain rfl := Option.some.inj hfn
    simp only [hb, Bool.false_and, cond_false]
  · rfl
theorem take_unwanted {P : Program} {Γ : Glob} {ops : Array Oper} {mask : Nat} {held : List Held} {fr fr2 : Fr} {hp : Hp} {o : Oper} {rest : List Oper} {i : Nat} {res : Option (Nat × List Held × Fr × Hp)} (hm : Nat.testBit mask i = false) (hd : Nat.beq (Nat.land (depsOf o) mask) (depsOf o) = true) (hw : wantedQ ops fr o = some false) (hput : fr.put o.dst (.lit undef) = some fr2)
    (h : takeAll P Γ ops rest (i + 1) (mask ||| 2 ^ i) held fr2 hp = res) : takeAll P Γ ops (o :: rest) i mask held fr hp = res := by
  rw [← h, takeAll, hm, cond_false, hd, cond_true, hw]
  simp only [hput]
theorem roundEnd_normal {B : Nat} {fr : Fr} {h : Hp} {x : ALoop} {v : SV} (hB : h.objs.get B = some (.loop x)) : roundEnd B ⟨.normal, fr, h, v⟩ = some [⟨.ret, fr, h.upd B (.loop { x with state := .ready, pending := none }), .lit (.bool true)⟩] := by
  simp only [roundEnd, endRoundE, hB]
  rfl
theorem leave_marked {P : Program} {Γ : Glob} {fn : Func} {tm : T SV} {n D t : Nat} {h : Hp} {v v0 : SV} (hr : fn.results.toList = [.tmp t]) (hD : h.objs.get D = some (.deferred true)) (he : Fr.ev ⟨tm, n, [D]⟩ (.tmp t) = v) : leave P Γ fn ⟨.ret, ⟨tm, n, [D]⟩, h, v0⟩ = some [⟨.ret, ⟨tm, n, [D]⟩, h.upd D (.deferred false), v⟩] := by
  simp only [leave, shutMarks, hD, hr, resultsQ, Option.map_some, he]
theorem _root_.Go.Proofs.YtjilmneaeocimaaGreatDoor.Ev.RowIs.less {h : Hp} {lo lo' bl : Nat} {e : TypeId} {n : Nat} {v : SV} {l : List (List SV)} (hr : RowIs h lo bl e n v l) (hl : lo' ≤ lo) : RowIs h lo' bl e n v l := by
  rcases hr with hr | ⟨r1, r2, r3, r4⟩
  · exact .inl hr
  · exact .inr ⟨r1, Nat.le_trans hl r2, r3, r4⟩
theorem leave_cell {P : Program} {Γ : Glob} {fn : Func} {tm : T SV} {n D t a : Nat} {ty e : TypeId} {h : Hp} {v v0 : SV} (hr : fn.results.toList = [.cell t ty]) (hD : h.objs.get D = some (.deferred true)) (he : Fr.ev ⟨tm, n, [D]⟩ (.tmp t) = .ptr a 0) (ht : tyAgg P ty = some false) (ha : a ≠ D) (hc : h.objs.get a = some (.cells [v] e)) : leave P Γ fn ⟨.ret, ⟨tm, n, [D]⟩, h, v0⟩ = some [⟨.ret, ⟨tm, n, [D]⟩, h.upd D (.deferred false), v⟩] := by
  have hl : loadQ P Γ (h.upd D (.deferred false)) ty (.ptr a 0) = some (v, [.cells a 0 [v]]) := load_cell ht ((get_ne ha).trans hc) rfl
  simp only [leave, shutMarks, hD, hr, resultsQ, he, hl]
theorem At.set {h : Hp} {b : Nat} {o o' : AObj} (a : At h b o) : At ⟨h.objs.set b o', h.next⟩ b o' := ⟨a.lt, get_same⟩
theorem At.setNe {h : Hp} {b c : Nat} {o o' : AObj} (a : At h b o) (hne : b ≠ c) : At ⟨h.objs.set c o', h.next⟩ b o := ⟨a.lt, (get_ne hne).trans a.get⟩
theorem slots2 {a b : Nat} {f g : Fr} (h1 : f.ev (.tmp a) = g.ev (.tmp a)) (h2 : f.ev (.tmp b) = g.ev (.tmp b)) : ∀ t ∈ [a, b], f.ev (.tmp t) = g.ev (.tmp t) := fun t ht => by
  simp only [List.mem_cons, List.not_mem_nil, or_false] at ht
  rcases ht with rfl | rfl <;> assumption
theorem slots3 {a b c : Nat} {f g : Fr} (h1 : f.ev (.tmp a) = g.ev (.tmp a)) (h2 : f.ev (.tmp b) = g.ev (.tmp b)) (h3 : f.ev (.tmp c) = g.ev (.tmp c)) : ∀ t ∈ [a, b, c], f.ev (.tmp t) = g.ev (.tmp t) := fun t ht => by
  simp only [List.mem_cons, List.not_mem_nil, or_false] at ht
  rcases ht with rfl | rfl | rfl <;> assumption
theorem slots4 {a b c d : Nat} {f g : Fr} (h1 : f.ev (.tmp a) = g.ev (.tmp a)) (h2 : f.ev (.tmp b) = g.ev (.tmp b)) (h3 : f.ev (.tmp c) = g.ev (.tmp c)) (h4 : f.ev (.tmp d) = g.ev (.tmp d)) : ∀ t ∈ [a, b, c, d], f.ev (.tmp t) = g.ev (.tmp t) := fun t ht => by
  simp only [List.mem_cons, List.not_mem_nil, or_false] at ht
  rcases ht with rfl | rfl | rfl | rfl <;> assumption
theorem slots5 {a b c d e : Nat} {f g : Fr} (h1 : f.ev (.tmp a) = g.ev (.tmp a)) (h2 : f.ev (.tmp b) = g.ev (.tmp b)) (h3 : f.ev (.tmp c) = g.ev (.tmp c)) (h4 : f.ev (.tmp d) = g.ev (.tmp d)) (h5 : f.ev (.tmp e) = g.ev (.tmp e)) : ∀ t ∈ [a, b, c, d, e], f.ev (.tmp t) = g.ev (.tmp t) := fun t ht => by
  simp only [List.mem_cons, List.not_mem_nil, or_false] at ht
  rcases ht with rfl | rfl | rfl | rfl | rfl <;> assumption
theorem slots6 {a b c d e i : Nat} {f g : Fr} (h1 : f.ev (.tmp a) = g.ev (.tmp a)) (h2 : f.ev (.tmp b) = g.ev (.tmp b)) (h3 : f.ev (.tmp c) = g.ev (.tmp c)) (h4 : f.ev (.tmp d) = g.ev (.tmp d)) (h5 : f.ev (.tmp e) = g.ev (.tmp e)) (h6 : f.ev (.tmp i) = g.ev (.tmp i)) : ∀ t ∈ [a, b, c, d, e, i], f.ev (.tmp t) = g.ev (.tmp t) := fun t ht => by
  simp only [List.mem_cons, List.not_mem_nil, or_false] at ht
  rcases ht with rfl | rfl | rfl | rfl | rfl | rfl <;> assumption
theorem fact_cells {h : Hp} {b off : Nat} {cs vs : List SV} {e : TypeId} (a : At h b (.cells cs e)) (hc : cut cs off vs.length = some vs) (hs : SV.sameL vs vs = true) : factHolds h (.cells b off vs) = true := by
  have hk : knownCells h b = some cs := by simp only [knownCells, a.get]
  simp only [factHolds, hk, Option.bind_some, hc, hs]
/-- A call's end that leaves what there was. -/
def Tells (h : Hp) (v : SV) (r : Out) : Prop := r.v = v ∧ Kept h.next h r.hp
end Go.Proofs.YtjilmneaeocimaaGreatDoor.snap
namespace Go.Proofs.YtjilmneaeocimaaGreatDoor.snap
open Go Go.Proofs.YtjilmneaeocimaaGreatDoor.Ev

theorem intEq (a b : Int) : pureRun Tryz.prog (Op.equal 3 (.int .i64 a) (.int .i64 b)) = some (a == b) := by kernel_rfl
theorem keyInt (e : Bool) (a : Int) : pureRun Tryz.prog (Instr.checkKey e 10000 3 (.int .i64 a)) = some () := by kernel_rfl
/-- A map's entries. -/
def ent (l : List (Int × Int)) (i : Nat) : List (SV × SV × Nat) := (l.zipIdx i).map fun x => (iv x.1.1, iv x.1.2, x.2)
theorem ent_nil (i : Nat) : ent [] i = [] := rfl
theorem ent_cons (p : Int × Int) (l : List (Int × Int)) (i : Nat) : ent (p :: l) i = (iv p.1, iv p.2, i) :: ent l (i + 1) := by
  simp [ent, List.zipIdx_cons]
theorem ent_len : ∀ (l : List (Int × Int)) (i : Nat), (ent l i).length = l.length
  | [], _ => rfl
  | p :: l, i => by rw [ent_cons, List.length_cons, List.length_cons, ent_len l]
/-- One more, or another number. -/
def putL : List (Int × Int) → Int → Int → List (Int × Int)
  | [], a, n => [(a, n)]
  | p :: l, a, n => if p.1 = a then (a, n) :: l else p :: putL l a n
theorem find_no {a : Int} : ∀ {l : List (Int × Int)} (i j : Nat), a ∉ keys l → findQ Tryz.prog 3 (.int .i64 a) (ent l i) j = some none ∧ ent l i ++ [(iv a, iv 0, i + l.length)] = ent (putL l a 0) i
  | [], _, _, _ => ⟨rfl, rfl⟩
  | p :: l, i, j, h => by
    have hne : p.1 ≠ a := fun e => h (by rw [← e]; exact List.mem_cons_self ..)
    obtain ⟨h1, h2⟩ := find_no (l := l) (i + 1) (j + 1) fun hm => h (List.mem_cons_of_mem _ hm)
    rw [ent_cons]
    refine ⟨?_, ?_⟩
    · simp only [findQ, iv, SV.toLit, intEq, beq_eq_false_iff_ne.2 (Ne.symm hne)]
      exact h1
    · rw [putL, if_neg hne, ent_cons, ← h2, List.cons_append, List.length_cons, show i + (l.length + 1) = i + 1 + l.length by omega]
theorem put_no {a n : Int} : ∀ {l : List (Int × Int)} (i : Nat), a ∉ keys l → ent l i ++ [(iv a, iv n, i + l.length)] = ent (putL l a n) i ∧ (putL l a n).length = l.length + 1
  | [], _, _ => ⟨rfl, rfl⟩
  | p :: l, i, h => by
    have hne : p.1 ≠ a := fun e => h (by rw [← e]; exact List.mem_cons_self ..)
    obtain ⟨h2, h3⟩ := put_no (n := n) (l := l) (i + 1) fun hm => h (List.mem_cons_of_mem _ hm)
    rw [ent_cons, putL, if_neg hne, ent_cons, ← h2, List.cons_append, List.length_cons, List.length_cons, h3]
    rw [show i + (l.length + 1) = i + 1 + l.length by omega]
    exact ⟨rfl, rfl⟩
theorem find_yes {a : Int} : ∀ {l : List (Int × Int)} (i j : Nat), a ∈ keys l → ∃ k, findQ Tryz.prog 3 (.int .i64 a) (ent l i) j = some (some (j + k, iv (val l a))) ∧ (ent l i)[k]? = some (iv a, iv (val l a), i + k) ∧
    ∀ n, setEntry (ent l i) k (iv a) (iv n) = ent (putL l a n) i ∧ (putL l a n).length = l.length
  | [], _, _, h => by cases h
  | p :: l, i, j, h => by
    rw [ent_cons]
    by_cases e : p.1 = a
    · refine ⟨0, ?_, ?_, fun n => ?_⟩
      · simp only [findQ, iv, SV.toLit, intEq, beq_iff_eq.2 e.symm]
        rw [val_cons, if_pos e, Nat.add_zero]
      · rw [val_cons, if_pos e, e]; rfl
      · rw [putL, if_pos e, ent_cons]; exact ⟨rfl, rfl⟩
    · have hm : a ∈ keys l := (List.mem_cons.1 h).resolve_left fun x => e x.symm
      obtain ⟨k, h1, h2, h3⟩ := find_yes (l := l) (i + 1) (j + 1) hm
      refine ⟨k + 1, ?_, ?_, fun n => ?_⟩
      · simp only [findQ, iv, SV.toLit, intEq, beq_eq_false_iff_ne.2 (Ne.symm e)]
        rw [val_cons, if_neg e, show j + (k + 1) = j + 1 + k by omega]
        exact h1
      · rw [List.getElem?_cons_succ, h2, val_cons, if_neg e, show i + 1 + k = i + (k + 1) by omega]
      · obtain ⟨h4, h5⟩ := h3 n
        rw [putL, if_neg e, ent_cons, setEntry, h4, List.length_cons, List.length_cons, h5]
        exact ⟨rfl, rfl⟩
set_option maxRecDepth 10000 in
theorem tyMapI : tyU Tryz.prog 49 = some (.map 3 3) := rfl
set_option maxRecDepth 10000 in
theorem zeroInt : tyZero Tryz.prog 3 = some (.int .i64 0) := rfl
theorem lookupI {h : Hp} {M c : Nat} {l : List (Int × Int)} {a : Int} (hM : h.objs.get M = some (.map (ent l 0) c)) : lookupQ Tryz.prog h 49 (.map M) (iv a) false = some (iv (val l a), [.obj M (.map (ent l 0) c)]) := by
  by_cases hx : a ∈ keys l
  · obtain ⟨k, h1, _⟩ := find_yes (l := l) (a := a) 0 0 hx
    simp only [lookupQ, tyMapI, entriesQ, hM, iv, SV.toLit, keyInt]
    rw [h1]
    rfl
  · have h1 := (find_no (l := l) (a := a) 0 0 hx).1
    simp only [lookupQ, tyMapI, entriesQ, hM, iv, SV.toLit, keyInt]
    rw [h1, val_no hx]
    simp only [zeroInt, cond_false]
theorem bitsInt (a : Int) : Instr.sameBits 10000 (.int .i64 a) (.int .i64 a) = true := by simp [Instr.sameBits]
theorem updateI {h : Hp} {M : Nat} {l : List (Int × Int)} {a n : Int} (hM : h.objs.get M = some (.map (ent l 0) l.length)) : mapUpdateE Tryz.prog h 49 (.map M) (iv a) (iv n) = some (h.upd M (.map (ent (putL l a n) 0) (putL l a n).length)) := by
  by_cases hx : a ∈ keys l
  · obtain ⟨k, h1, h2, h3⟩ := find_yes (l := l) (a := a) 0 0 hx
    obtain ⟨h4, h5⟩ := h3 n
    rw [Nat.zero_add] at h1
    have ht : ((ent l 0)[k]?).bind (fun e => e.1.toLit) = some (.int .i64 a) := by rw [h2]; rfl
    simp only [mapUpdateE, tyMapI, hM, iv, SV.toLit, keyInt]
    rw [h1]
    simp only [ht, bitsInt, cond_true]
    rw [← h4, h5]
    rfl
  · have h1 := (find_no (l := l) (a := a) 0 0 hx).1
    obtain ⟨h4, h5⟩ := put_no (l := l) (a := a) (n := n) 0 hx
    simp only [mapUpdateE, tyMapI, hM, iv, SV.toLit, keyInt]
    rw [h1]
    rw [← h4, h5, Nat.zero_add]
    rfl

/-! ### what is in it -/
theorem putL_mem {a n : Int} : ∀ {l : List (Int × Int)}, (keys l).Nodup → ∀ q, q ∈ putL l a n ↔ q = (a, n) ∨ (q ∈ l ∧ q.1 ≠ a)
  | [], _, q => by simp [putL]
  | p :: l, hn, q => by
    have hn' : p.1 ∉ keys l ∧ (keys l).Nodup := List.nodup_cons.1 hn
    rw [putL]
    by_cases e : p.1 = a
    · rw [if_pos e, List.mem_cons, List.mem_cons]
      constructor
      · rintro (h | h)
        · exact .inl h
        · exact .inr ⟨.inr h, fun he => hn'.1 (by rw [e, ← he]; exact List.mem_map.2 ⟨q, h, rfl⟩)⟩
      · rintro (h | ⟨rfl | h, h2⟩)
        · exact .inl h
        · exact absurd e h2
        · exact .inr h
    · rw [if_neg e, List.mem_cons, putL_mem hn'.2 q, List.mem_cons]
      constructor
      · rintro (rfl | h | ⟨h1, h2⟩)
        · exact .inr ⟨.inl rfl, e⟩
        · exact .inl h
        · exact .inr ⟨.inr h1, h2⟩
      · rintro (h | ⟨rfl | h1, h2⟩)
        · exact .inr (.inl h)
        · exact .inl rfl
        · exact .inr (.inr ⟨h1, h2⟩)
theorem putL_keys {a n : Int} : ∀ {l : List (Int × Int)}, ∀ x, x ∈ keys (putL l a n) ↔ x = a ∨ x ∈ keys l
  | [], x => by simp [putL, keys]
  | p :: l, x => by
    rw [putL]
    by_cases e : p.1 = a
    · rw [if_pos e]
      show x ∈ a :: keys l ↔ x = a ∨ x ∈ p.1 :: keys l
      rw [List.mem_cons, List.mem_cons, e]
      constructor
      · rintro (h | h)
        · exact .inl h
        · exact .inr (.inr h)
      · rintro (h | h | h)
        · exact .inl h
        · exact .inl h
        · exact .inr h
    · rw [if_neg e]
      show x ∈ p.1 :: keys (putL l a n) ↔ x = a ∨ x ∈ p.1 :: keys l
      rw [List.mem_cons, List.mem_cons, putL_keys x]
      constructor
      · rintro (h | h | h)
        · exact .inr (.inl h)
        · exact .inl h
        · exact .inr (.inr h)
      · rintro (h | h | h)
        · exact .inr (.inl h)
        · exact .inl h
        · exact .inr (.inr h)
theorem putL_nodup {a n : Int} : ∀ {l : List (Int × Int)}, (keys l).Nodup → (keys (putL l a n)).Nodup
  | [], _ => by simp [putL, keys]
  | p :: l, hn => by
    have hn' : p.1 ∉ keys l ∧ (keys l).Nodup := List.nodup_cons.1 hn
    rw [putL]
    by_cases e : p.1 = a
    · rw [if_pos e]
      show (a :: keys l).Nodup
      rw [← e]
      exact hn
    · rw [if_neg e]
      show (p.1 :: keys (putL l a n)).Nodup
      refine List.nodup_cons.2 ⟨fun h => ?_, putL_nodup hn'.2⟩
      rcases (putL_keys p.1).1 h with h | h
      · exact e h
      · exact hn'.1 h
/-- A map's list holds what a rising one holds. -/
def Holds (l r : List (Int × Int)) : Prop := (keys l).Nodup ∧ ∀ p, p ∈ l ↔ p ∈ r
theorem Holds.val {l r : List (Int × Int)} (h : Holds l r) (ha : Asc r) (_hz : ∀ p ∈ r, p.2 ≠ 0) (a : Int) : snap.val l a = snap.val r a := by
  by_cases hl : snap.val r a = 0
  · by_cases hl2 : snap.val l a = 0
    · rw [hl, hl2]
    · have hm := (h.2 _).1 (mem_of_val hl2)
      have := val_mem ha.nodup hm
      simp at this
      exact this.symm
  · have hm := (h.2 _).2 (mem_of_val hl)
    exact val_mem h.1 hm
theorem Holds.put {l r : List (Int × Int)} {p : Int × Int} (h : Holds l r) : Holds (putL l p.1 p.2) (insR r p) :=
  ⟨putL_nodup h.1, fun q => by rw [putL_mem h.1, insR_mem, h.2]⟩
theorem Holds.keys {l r : List (Int × Int)} (h : Holds l r) (ha : Asc r) : (snap.keys l).Perm (snap.keys r) := by
  have hn : l.Nodup := by
    have := h.1
    unfold snap.keys List.Nodup at this
    rw [List.pairwise_map] at this
    exact this.imp fun hab e => hab (by rw [e])
  exact ((List.perm_ext_iff_of_nodup hn ha.nodup').2 h.2).map _
theorem sorted_keys {zs : List Int} {r : List (Int × Int)} (ha : Asc r) (h : zs.Perm (keys r)) : zs.mergeSort (fun x y => decide (x ≤ y)) = keys r := by
  have h1 : (zs.mergeSort fun x y => decide (x ≤ y)).Perm (keys r) := (List.mergeSort_perm ..).trans h
  have h2 : (zs.mergeSort fun x y => decide (x ≤ y)).Pairwise fun a b => decide (a ≤ b) = true := List.pairwise_mergeSort (fun a b c => by simp; omega) (fun a b => by simp; omega) _
  have h3 : (keys r).Pairwise fun a b => decide (a ≤ b) = true := by
    unfold keys
    rw [List.pairwise_map]
    exact ha.imp fun hab => by simpa using Int.le_of_lt hab
  exact h1.eq_of_pairwise (fun a b _ _ x y => by simp at x y; omega) h2 h3
end Go.Proofs.YtjilmneaeocimaaGreatDoor.snap
