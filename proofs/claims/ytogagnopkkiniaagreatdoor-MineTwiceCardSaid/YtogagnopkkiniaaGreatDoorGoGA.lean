/-
  WHAT IS GONE, in plain terms: a list of deeds, what takes a deed back, and that going through the takers from the last one on comes to the document's definition; by the author of this claim. No program. | THE TAKERS' CELLS, AND HOW THEY ARE SORTED: definitions, by the author of this claim, over the kit's own sort. | THE SEAT's ORACLE: the document's example ('counterpanelaw39.awake', function 4) tells true; a sort of takers sorts them. Shown in later texts.
-/
import Derived.Test.YtogagnopkkiniaaGreatDoorEvGF
import Derived.Shelf.SlSortCmp.Insertion
import Derived.Sort.AssemblyPlain
import Derived.Lib.Small
import Derived.Lib.BitFns
namespace Go.Proofs.YtogagnopkkiniaaGreatDoor.gone

/-- A deed: its author and number, its kind, the author and the number of what it is done to. -/
structure D where
  a : Int
  n : Int
  k : Int
  ta : Int
  tn : Int

/-- Does it take back, of author q? -/
def isT (q : Int) (d : D) : Bool := decide (d.k = 7) && decide (d.a = q) && decide (d.ta = q) && decide (d.n > d.tn)

/-- The document's: of so much fuel. -/
def refG (l : List D) (q : Int) : Nat → Int → Bool
  | 0, _ => false
  | f + 1, n => l.any fun d => decide (d.k = 7) && decide (d.ta = q) && decide (d.tn = n) && decide (d.a = q) && decide (n < d.n) && !refG l q f d.n

/-- How many deeds have a greater number. -/
def above (l : List D) (n : Int) : Nat := (l.filter fun d => decide (n < d.n)).length
theorem above_lt {l : List D} {n : Int} {d : D} (hd : d ∈ l) (hn : n < d.n) : above l d.n < above l n := by
  unfold above
  induction l with
  | nil => cases hd
  | cons x l ih =>
    have hle : (l.filter fun y => decide (d.n < y.n)).length ≤ (l.filter fun y => decide (n < y.n)).length := by
      clear ih hd
      induction l with
      | nil => exact Nat.le_refl _
      | cons y l ih =>
        simp only [List.filter_cons]
        by_cases h1 : d.n < y.n
        · simp only [h1, decide_true, if_true, show n < y.n by omega, List.length_cons]; omega
        · simp only [h1, decide_false, Bool.false_eq_true, if_false]
          split
          · simp only [List.length_cons]; omega
          · exact ih
    rcases List.mem_cons.1 hd with rfl | hd
    · simp only [List.filter_cons, hn, decide_true, if_true, show ¬ d.n < d.n by omega, decide_false, Bool.false_eq_true, if_false, List.length_cons]
      omega
    · have := ih hd
      simp only [List.filter_cons]
      by_cases h1 : d.n < x.n
      · simp only [h1, decide_true, if_true, show n < x.n by omega, List.length_cons]; omega
      · simp only [h1, decide_false, Bool.false_eq_true, if_false]
        split
        · simp only [List.length_cons]; omega
        · exact this

theorem any_congr_mem {α : Type} {p q : α → Bool} : ∀ {l : List α}, (∀ x ∈ l, p x = q x) → l.any p = l.any q
  | [], _ => rfl
  | a :: l, h => by
    rw [List.any_cons, List.any_cons, h a (List.mem_cons_self ..), any_congr_mem fun x hx => h x (List.mem_cons_of_mem _ hx)]

/-- With enough fuel it hangs on the fuel no more. -/
theorem refG_fuel (l : List D) (q : Int) : ∀ (f g : Nat) (n : Int), above l n < f → above l n < g → refG l q f n = refG l q g n
  | 0, _, _, h, _ => by omega
  | _ + 1, 0, _, _, h => by omega
  | f + 1, g + 1, n, h1, h2 => by
    simp only [refG]
    refine any_congr_mem fun d hd => ?_
    by_cases hn : n < d.n
    · have := above_lt hd hn
      rw [refG_fuel l q f g d.n (by omega) (by omega)]
    · simp only [hn, decide_false, Bool.and_false, Bool.false_and]

/-- The document's. -/
def G (l : List D) (q n : Int) : Bool := refG l q (above l n + 1) n
theorem above_le (l : List D) (n : Int) : above l n ≤ l.length := List.length_filter_le _ _
theorem G_eq (l : List D) (q n : Int) : G l q n = l.any fun d => decide (d.k = 7) && decide (d.ta = q) && decide (d.tn = n) && decide (d.a = q) && decide (n < d.n) && !G l q d.n := by
  unfold G
  rw [refG]
  refine any_congr_mem fun d hd => ?_
  by_cases hn : n < d.n
  · have := above_lt hd hn
    rw [refG_fuel l q (above l n) (above l d.n + 1) d.n (by omega) (by omega)]
  · simp only [hn, decide_false, Bool.and_false, Bool.false_and]
theorem G_iff (l : List D) (q n : Int) : G l q n = true ↔ ∃ d ∈ l, isT q d = true ∧ d.tn = n ∧ G l q d.n = false := by
  rw [G_eq, List.any_eq_true]
  constructor
  · rintro ⟨d, hd, h⟩
    simp only [Bool.and_eq_true, decide_eq_true_eq, Bool.not_eq_true'] at h
    refine ⟨d, hd, ?_, h.1.1.1.2, h.2⟩
    simp only [isT, Bool.and_eq_true, decide_eq_true_eq]
    omega
  · rintro ⟨d, hd, h1, h2, h3⟩
    refine ⟨d, hd, ?_⟩
    simp only [isT, Bool.and_eq_true, decide_eq_true_eq] at h1
    simp only [Bool.and_eq_true, decide_eq_true_eq, Bool.not_eq_true', h3, and_true]
    omega

/-- One taker more. -/
def stepG (g : List Int) (d : D) : List Int := if g.contains d.n then g else if g.contains d.tn then g else g ++ [d.tn]
def foldG (l : List D) : List Int := l.foldl stepG []
theorem mem_stepG {g : List Int} {d : D} {x : Int} : x ∈ stepG g d ↔ x ∈ g ∨ (x = d.tn ∧ ¬ d.n ∈ g) := by
  unfold stepG
  by_cases h1 : d.n ∈ g
  · rw [if_pos (by simpa using h1)]
    constructor
    · exact .inl
    · rintro (h | ⟨_, h⟩)
      · exact h
      · exact absurd h1 h
  · rw [if_neg (by simpa using h1)]
    by_cases h2 : d.tn ∈ g
    · rw [if_pos (by simpa using h2)]
      constructor
      · exact .inl
      · rintro (h | ⟨rfl, _⟩)
        · exact h
        · exact h2
    · rw [if_neg (by simpa using h2), List.mem_append, List.mem_singleton]
      exact ⟨fun h => h.imp id fun h => ⟨h, h1⟩, fun h => h.imp id fun h => h.1⟩

/-- **Going through the takers, the last one first, comes to the document's.** -/
theorem fold_gone {l t : List D} {q : Int} (hmem : ∀ d, d ∈ t ↔ d ∈ l ∧ isT q d = true) (hs : t.Pairwise fun x y => y.n ≤ x.n) : ∀ n, n ∈ foldG t ↔ G l q n = true := by
  have main : ∀ (s p : List D) (g : List Int), t = p ++ s → (∀ x, x ∈ g ↔ ∃ d ∈ p, d.tn = x ∧ G l q d.n = false) → ∀ x, x ∈ s.foldl stepG g ↔ ∃ d ∈ t, d.tn = x ∧ G l q d.n = false := by
    intro s
    induction s with
    | nil =>
      intro p g ht hg x
      rw [List.foldl_nil, hg x, ht, List.append_nil]
    | cons d s ih =>
      intro p g ht hg x
      rw [List.foldl_cons]
      refine ih (p ++ [d]) _ (by rw [ht, List.append_assoc, List.singleton_append]) (fun y => ?_) x
      have hd : d.n ∈ g ↔ G l q d.n = true := by
        rw [hg, G_iff]
        constructor
        · rintro ⟨e, he, h1, h2⟩
          have := (hmem e).1 (by rw [ht]; exact List.mem_append_left _ he)
          exact ⟨e, this.1, this.2, h1, h2⟩
        · rintro ⟨e, he, h0, h1, h2⟩
          have het := (hmem e).2 ⟨he, h0⟩
          simp only [isT, Bool.and_eq_true, decide_eq_true_eq] at h0
          rw [ht] at het
          rcases List.mem_append.1 het with h | h
          · exact ⟨e, h, h1, h2⟩
          · exfalso
            rw [ht, List.pairwise_append] at hs
            rcases List.mem_cons.1 h with rfl | h
            · omega
            · have := (List.pairwise_cons.1 hs.2.1).1 e h
              omega
      rw [mem_stepG, hg, hd]
      constructor
      · rintro (⟨e, he, h⟩ | ⟨rfl, h⟩)
        · exact ⟨e, List.mem_append_left _ he, h⟩
        · exact ⟨d, List.mem_append_right _ (List.mem_singleton_self _), rfl, by simpa using h⟩
      · rintro ⟨e, he, h1, h2⟩
        rcases List.mem_append.1 he with h | h
        · exact .inl ⟨e, h, h1, h2⟩
        · obtain rfl := List.mem_singleton.1 h
          exact .inr ⟨h1.symm, by simp [h2]⟩
  intro n
  rw [foldG, main t [] [] rfl (fun x => by simp) n, G_iff]
  constructor
  · rintro ⟨d, hd, h1, h2⟩
    exact ⟨d, ((hmem d).1 hd).1, ((hmem d).1 hd).2, h1, h2⟩
  · rintro ⟨d, hd, h0, h1, h2⟩
    exact ⟨d, (hmem d).2 ⟨hd, h0⟩, h1, h2⟩
end Go.Proofs.YtogagnopkkiniaaGreatDoor.gone
namespace Go.Proofs.YtogagnopkkiniaaGreatDoor.gone
open Go Go.Lib Go.Sort Go.Proofs.YtogagnopkkiniaaGreatDoor.Ev

instance : Inhabited D := ⟨⟨0, 0, 0, 0, 0⟩⟩
/-- What a new deed has behind its numbers. -/
def tailS : List SV := [.lit (.string ⟨#[]⟩), .lit (.int .i64 0), .lit (.int .i64 0), .lit (.int .i64 0), .lit (.int .i64 0), .lit (.string ⟨#[]⟩), .lit (.bool false), .lit (.int .i64 0), .lit (.int .i64 0), .lit (.int .i64 0), .lit (.int .i64 0), .lit (.int .i64 0), .lit (.string ⟨#[]⟩), .lit (.bool false), .lit (.int .i64 0), .lit (.string ⟨#[]⟩), .lit (.int .i64 0), .lit (.int .i64 0), .lit (.int .i64 0), .lit (.int .i64 0), .lit (.bool false), .lit (.bool false), .lit (.int .i64 0), .lit (.int .i64 0), .lit (.int .i64 0), .lit (.int .i64 0), .lit (.bool false), .lit (.bool false), .lit (.int .i64 0), .lit (.slice none 0 0)]
/-- The cells of a deed that came in. -/
def deedC (d : D) (c3 c4 c5 c6 : SV) (rest : List SV) : List SV := .lit (.int .i64 d.a) :: .lit (.int .i64 d.n) :: .lit (.int .i64 d.k) :: c3 :: c4 :: c5 :: c6 :: .lit (.int .i64 d.ta) :: .lit (.int .i64 d.tn) :: rest
/-- The cells of a taker. -/
def takC (d : D) : List SV := .lit (.int .i64 d.a) :: .lit (.int .i64 d.n) :: .lit (.int .i64 0) :: .lit (.int .i64 0) :: .lit (.int .i64 0) :: .lit (.int .i64 0) :: .lit (.int .i64 0) :: .lit (.int .i64 d.ta) :: .lit (.int .i64 d.tn) :: tailS
def zeroD : List SV := .lit (.int .i64 0) :: .lit (.int .i64 0) :: .lit (.int .i64 0) :: .lit (.int .i64 0) :: .lit (.int .i64 0) :: .lit (.int .i64 0) :: .lit (.int .i64 0) :: .lit (.int .i64 0) :: .lit (.int .i64 0) :: tailS
theorem takC_len (d : D) : (takC d).length = 39 := rfl
theorem takC_one (d : D) : (takC d).all SV.one = true := rfl
theorem takC_deed (d : D) (h : d.k = 0) : takC d = deedC d (.lit (.int .i64 0)) (.lit (.int .i64 0)) (.lit (.int .i64 0)) (.lit (.int .i64 0)) tailS := by simp only [takC, deedC, h]
def idC (a n : Int) : List SV := [.lit (.int .i64 a), .lit (.int .i64 n)]

/-- The takers out of their cells. -/
def dec : Nat → List SV → List D
  | n + 1, .lit (.int _ a) :: .lit (.int _ x) :: _ :: _ :: _ :: _ :: _ :: .lit (.int _ ta) :: .lit (.int _ tn) :: rest => ⟨a, x, 7, ta, tn⟩ :: dec n (rest.drop 30)
  | _, _ => []
theorem dec_tak : ∀ (ds : List D), (∀ d ∈ ds, d.k = 7) → dec ds.length ((ds.map takC).flatten) = ds
  | [], _ => rfl
  | ⟨a, x, k, ta, tn⟩ :: ds, h => by
    obtain rfl : k = 7 := h _ (List.mem_cons_self ..)
    rw [List.map_cons, List.flatten_cons, List.length_cons]
    show (⟨a, x, 7, ta, tn⟩ : D) :: dec ds.length ((tailS ++ (ds.map takC).flatten).drop 30) = _
    rw [show (tailS ++ (ds.map takC).flatten).drop 30 = (ds.map takC).flatten from List.drop_left (l₁ := tailS)]
    rw [dec_tak ds fun d hd => h d (List.mem_cons_of_mem _ hd)]

/-- The greater number first. -/
def cfD (x y : D) : Int := Lib.compareInt y.n x.n
theorem ltD (x y : D) : ltOf cfD x y = decide (y.n < x.n) := by
  unfold ltOf cfD Lib.compareInt
  by_cases h1 : y.n < x.n
  · simp [h1]
  · by_cases h2 : x.n < y.n <;> simp [h1, h2]
theorem swoD : SWO (ltOf cfD) where
  irrefl x := by rw [ltD]; simp
  trans x y z h1 h2 := by rw [ltD] at *; simp at *; omega
  ntrans x y z h1 h2 := by rw [ltD] at *; simp at *; omega
def sortA (l : List D) : Array D := pdq (ltOf cfD) l.toArray 0 l.toArray.size (Lib.bitLen l.toArray.size) true true
def sortD (l : List D) : List D := (sortA l).toList
theorem sortA_spec (l : List D) : PermIn 0 l.toArray.size l.toArray (sortA l) ∧ SortedIn (ltOf cfD) 0 l.toArray.size (sortA l) :=
  pdq_sorts (ltOf cfD) swoD l.toArray 0 l.toArray.size (Lib.bitLen l.toArray.size) true true (Nat.zero_le _) (Nat.le_refl _) (Or.inl rfl)
theorem sortA_size (l : List D) : (sortA l).size = l.length := by rw [(sortA_spec l).1.1]; simp
theorem sortD_perm (l : List D) : (sortD l).Perm l := by
  obtain ⟨h1, _, h3⟩ := (sortA_spec l).1
  have e1 : (sortA l).extract 0 l.toArray.size = sortA l := by rw [← h1]; exact Array.extract_size
  have e2 : l.toArray.extract 0 l.toArray.size = l.toArray := Array.extract_size
  rw [e1, e2] at h3
  exact h3
theorem sortD_len (l : List D) : (sortD l).length = l.length := (sortD_perm l).length_eq
theorem sortD_sorted (l : List D) : (sortD l).Pairwise fun x y => y.n ≤ x.n := by
  rw [List.pairwise_iff_getElem]
  intro i j hi hj hij
  have hj' : j < l.toArray.size := by rw [sortD_len] at hj; simpa using hj
  have h := (sortA_spec l).2 i j (Nat.zero_le _) hij hj'
  rw [ltD, decide_eq_false_iff_not] at h
  have gi : (sortA l)[i]! = (sortD l)[i] := by
    rw [getElem!_pos (sortA l) i (by rw [sortA_size]; rw [sortD_len] at hi; exact hi)]
    simp [sortD]
  have gj : (sortA l)[j]! = (sortD l)[j] := by
    rw [getElem!_pos (sortA l) j (by rw [sortA_size]; rw [sortD_len] at hj; exact hj)]
    simp [sortD]
  rw [gi, gj] at h
  omega


open Classical in
/-- The word on a sort of the takers. -/
noncomputable def sortV (v : SV) (hp : Hp) : R := match v with
  | .lit (.slice none 0 0) => some [⟨.ret, ⟨.leaf, 0, []⟩, hp, .lit (.tuple #[])⟩]
  | .row b 0 n n' cv => match hp.objs.get b with
    | some (.row l e k cv' size) => if l = ((dec n l).map takC).flatten ∧ n' = n ∧ k = n ∧ cv' = cv ∧ e = 42 ∧ size = 39 ∧ (dec n l).length = n ∧ n ≤ 1000000 then some [⟨.ret, ⟨.leaf, 0, []⟩, hp.upd b (.row (((sortD (dec n l)).map takC).flatten) e k cv' size), .lit (.tuple #[])⟩] else none
    | _ => none
  | _ => none
noncomputable def sortW (args : List SV) (hp : Hp) : R := match args with
  | [v, .lit (.func (.func g) a b)] => bif Nat.beq g 18 && a.isEmpty && b.isEmpty then sortV v hp else none
  | _ => none
theorem sortW_nil (hp : Hp) : sortW [.lit (.slice none 0 0), .lit (.func (.func 18) #[] #[])] hp = some [⟨.ret, ⟨.leaf, 0, []⟩, hp, .lit (.tuple #[])⟩] := rfl
theorem sortW_row {hp : Hp} {b : Nat} {ds : List D} (hk : ∀ d ∈ ds, d.k = 7) (hn : ds.length ≤ 1000000) (hb : hp.objs.get b = some (.row ((ds.map takC).flatten) 42 ds.length b 39)) :
    sortW [.row b 0 ds.length ds.length b, .lit (.func (.func 18) #[] #[])] hp = some [⟨.ret, ⟨.leaf, 0, []⟩, hp.upd b (.row (((sortD ds).map takC).flatten) 42 ds.length b 39), .lit (.tuple #[])⟩] := by
  show sortV (.row b 0 ds.length ds.length b) hp = _
  simp only [sortV, hb, dec_tak ds hk, true_and, hn, if_true]
end Go.Proofs.YtogagnopkkiniaaGreatDoor.gone
namespace Go.Proofs.YtogagnopkkiniaaGreatDoor.Ev
open Go
noncomputable def theMem : Oracle := fun f args hp => bif Nat.beq f 4 then (match args with
  | [] => some [⟨.ret, ⟨.leaf, 0, []⟩, hp, .lit (.bool true)⟩]
  | _ => none) else bif Nat.beq f 17 then gone.sortW args hp else none
end Go.Proofs.YtogagnopkkiniaaGreatDoor.Ev
