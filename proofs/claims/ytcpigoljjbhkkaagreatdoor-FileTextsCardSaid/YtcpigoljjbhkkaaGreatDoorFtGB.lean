/-
  TEXTS AS LISTS OF BYTES: cut at a byte, a byte replaced, escaped; plain lists, no program; by the author of this claim. | TEXTS, NUMBERS AND VALUES: what the model makes of operations on them; by the author of this claim (numbers and values: printed by the author's dec.py). | 'tree.digitsOf' IN THE CALCULUS OF RUNS: how many digits a text begins with; by the author of this claim.
-/
import Derived.Lib.Replace
import Derived.Lib.Join
import Derived.Test.YtcpigoljjbhkkaaGreatDoorFtGA
namespace Go.Proofs.YtcpigoljjbhkkaaGreatDoor.ft
open Go

theorem index_at {c : UInt8} {p : List UInt8} (r : List UInt8) (h : c ∉ p) : Lib.index (p ++ c :: r) [c] = p.length := by
  refine Lib.index_first (by simp) ?_ fun j hj => ?_
  · simp [Lib.occAt]
  · cases hb : Lib.occAt (p ++ c :: r) [c] j with
    | false => rfl
    | true =>
      have h1 := Lib.occAt_head rfl hb
      rw [List.getElem?_append_left hj] at h1
      exact absurd (List.mem_of_getElem? h1) h
theorem index_no {c : UInt8} {l : List UInt8} (h : c ∉ l) : Lib.index l [c] = -1 := by
  refine Lib.index_none fun j _ => ?_
  cases hb : Lib.occAt l [c] j with
  | false => rfl
  | true => exact absurd (List.mem_of_getElem? (Lib.occAt_head rfl hb)) h
theorem cut_at {c : UInt8} {p : List UInt8} (r : List UInt8) (h : c ∉ p) : Lib.cut (p ++ c :: r) [c] = (p, r, true) := by
  unfold Lib.cut
  rw [index_at r h, if_pos (by omega)]
  simp
theorem cut_no {c : UInt8} {l : List UInt8} (h : c ∉ l) : Lib.cut l [c] = (l, [], false) := by
  unfold Lib.cut
  rw [index_no h, if_neg (by omega)]
/-- Where a byte is in a text. -/
theorem split_at {c : UInt8} {l : List UInt8} (h : c ∈ l) : ∃ p r, l = p ++ c :: r ∧ c ∉ p := by
  induction l with
  | nil => cases h
  | cons a l ih =>
    by_cases e : a = c
    · exact ⟨[], l, by rw [e]; rfl, List.not_mem_nil⟩
    · obtain ⟨p, r, rfl, h2⟩ := ih ((List.mem_cons.1 h).resolve_left fun h => e h.symm)
      exact ⟨a :: p, r, rfl, fun h => (List.mem_cons.1 h).elim (fun h => e h.symm) h2⟩

/-- A byte replaced wherever it is. -/
def rep (c : UInt8) (new l : List UInt8) : List UInt8 := l.flatMap fun b => if b = c then new else [b]
theorem rep_no {c : UInt8} {new l : List UInt8} (h : c ∉ l) : rep c new l = l := by
  induction l with
  | nil => rfl
  | cons a l ih =>
    have ha : ¬ a = c := fun e => h (e ▸ List.mem_cons_self ..)
    have := ih fun e => h (List.mem_cons_of_mem _ e)
    unfold rep at this ⊢
    rw [List.flatMap_cons, this, if_neg ha]
    rfl
theorem rep_append (c : UInt8) (new l m : List UInt8) : rep c new (l ++ m) = rep c new l ++ rep c new m := List.flatMap_append ..
theorem rep_cons (c : UInt8) (new : List UInt8) (a : UInt8) (l : List UInt8) : rep c new (a :: l) = (if a = c then new else [a]) ++ rep c new l := List.flatMap_cons ..
theorem rep_len {c : UInt8} {new : List UInt8} (h : new.length = 2) (l : List UInt8) : (rep c new l).length ≤ 2 * l.length := by
  induction l with
  | nil => exact Nat.le_refl _
  | cons a l ih =>
    rw [rep_cons, List.length_append, List.length_cons]
    by_cases e : a = c
    · rw [if_pos e]; omega
    · rw [if_neg e, List.length_singleton]; omega
theorem replaceK_eq {c : UInt8} {new : List UInt8} : ∀ (n : Nat) (l : List UInt8), l.length ≤ n → Lib.replaceK [c] new (Lib.count l [c]) l = rep c new l
  | n, l, hn => by
    by_cases h : c ∈ l
    · obtain ⟨p, r, rfl, hp⟩ := split_at h
      rw [Lib.count_hit (by simp) (index_at r hp), Nat.add_comm 1, Lib.replaceK_hit _ _ _ _ _ (index_at r hp)]
      have e1 : (p ++ c :: r).drop (p.length + [c].length) = r := by simp
      have e2 : (p ++ c :: r).take p.length = p := by simp
      rw [e1, e2, rep_append, rep_cons, if_pos rfl, rep_no hp]
      have hl : r.length ≤ n - 1 := by simp at hn; omega
      cases n with
      | zero => simp at hn
      | succ n => rw [replaceK_eq n r (by simpa using hl), List.append_assoc]
    · rw [Lib.count_miss (index_no h), rep_no h]
      rfl
theorem count_le_len {c : UInt8} : ∀ (n : Nat) (l : List UInt8), l.length ≤ n → Lib.count l [c] ≤ l.length
  | n, l, hn => by
    by_cases h : c ∈ l
    · obtain ⟨p, r, rfl, hp⟩ := split_at h
      have e1 : (p ++ c :: r).drop (p.length + [c].length) = r := by simp
      rw [Lib.count_hit (by simp) (index_at r hp), e1]
      cases n with
      | zero => simp at hn
      | succ n =>
        have := count_le_len (c := c) n r (by simp at hn; omega)
        simp
        omega
    · rw [Lib.count_miss (index_no h)]
      omega
theorem replaceAll_eq {c : UInt8} {new l : List UInt8} (h : new ≠ [c]) : Lib.replaceAll l [c] new = rep c new l := by
  unfold Lib.replaceAll Lib.replace
  have : ¬ ([c] == new) = true := fun e => h (eq_of_beq e).symm
  rw [if_neg this]
  unfold Lib.replaceNum
  rw [if_pos (by left; omega)]
  exact replaceK_eq l.length l (Nat.le_refl _)

/-- A text escaped: first its backslashes, then its line ends. -/
def e1 (l : List UInt8) : List UInt8 := rep 92 [92, 92] l
def esc (l : List UInt8) : List UInt8 := rep 10 [92, 110] (e1 l)
theorem esc_nil : esc [] = [] := rfl
theorem esc_append (l m : List UInt8) : esc (l ++ m) = esc l ++ esc m := by unfold esc e1; rw [rep_append, rep_append]
theorem esc_bs (l : List UInt8) : esc (92 :: l) = 92 :: 92 :: esc l := by unfold esc e1; simp [rep_cons]
theorem esc_nl (l : List UInt8) : esc (10 :: l) = 92 :: 110 :: esc l := by unfold esc e1; simp [rep_cons]
theorem esc_no {l : List UInt8} (h1 : 92 ∉ l) (h2 : 10 ∉ l) : esc l = l := by unfold esc e1; rw [rep_no h1, rep_no h2]
theorem e1_len (l : List UInt8) : (e1 l).length ≤ 2 * l.length := rep_len rfl l
theorem esc_len (l : List UInt8) : (esc l).length ≤ 4 * l.length := by
  have := rep_len (c := 10) (new := [92, 110]) rfl (e1 l)
  have := e1_len l
  unfold esc
  omega
theorem e1_append (l m : List UInt8) : e1 (l ++ m) = e1 l ++ e1 m := rep_append ..
theorem e1_no {l : List UInt8} (h1 : 92 ∉ l) : e1 l = l := rep_no h1
theorem rep_mem {c d : UInt8} {new l : List UInt8} (hc : d ∉ new) (h : d = c ∨ d ∉ l) : d ∉ rep c new l := by
  intro hd
  obtain ⟨b, hb, hd⟩ := List.mem_flatMap.1 hd
  by_cases e : b = c
  · rw [if_pos e] at hd; exact hc hd
  · rw [if_neg e, List.mem_singleton] at hd
    rcases h with h | h
    · exact e (hd ▸ h)
    · exact h (hd ▸ hb)
theorem esc_line (l : List UInt8) : (10 : UInt8) ∉ esc l := rep_mem (by decide) (.inl rfl)
/-- A text, by its first byte that is escaped. -/
theorem esc_cases (l : List UInt8) : (92 ∉ l ∧ 10 ∉ l) ∨ ∃ p b r, l = p ++ b :: r ∧ 92 ∉ p ∧ 10 ∉ p ∧ (b = 92 ∨ b = 10) := by
  induction l with
  | nil => exact .inl ⟨List.not_mem_nil, List.not_mem_nil⟩
  | cons a l ih =>
    by_cases e : a = 92 ∨ a = 10
    · exact .inr ⟨[], a, l, rfl, List.not_mem_nil, List.not_mem_nil, e⟩
    · have h1 : (92 : UInt8) ≠ a := fun h => e (.inl h.symm)
      have h2 : (10 : UInt8) ≠ a := fun h => e (.inr h.symm)
      rcases ih with ⟨h3, h4⟩ | ⟨p, b, r, rfl, h3, h4, h5⟩
      · exact .inl ⟨fun h => (List.mem_cons.1 h).elim h1 h3, fun h => (List.mem_cons.1 h).elim h2 h4⟩
      · exact .inr ⟨a :: p, b, r, rfl, fun h => (List.mem_cons.1 h).elim h1 h3, fun h => (List.mem_cons.1 h).elim h2 h4, h5⟩
/-- How a number up to 999 is written. -/
def dg (n : Nat) : List UInt8 := if n < 10 then [UInt8.ofNat (48 + n)] else if n < 100 then [UInt8.ofNat (48 + n / 10), UInt8.ofNat (48 + n % 10)] else [UInt8.ofNat (48 + n / 100), UInt8.ofNat (48 + n / 10 % 10), UInt8.ofNat (48 + n % 10)]
def isDig (b : UInt8) : Bool := Nat.ble 48 b.toNat && Nat.ble b.toNat 57
theorem dg_all : (List.range 256).all (fun n => (dg n).all isDig && Nat.ble 1 (dg n).length && Nat.ble (dg n).length 3) = true := by decide +kernel
theorem dg_ok {n : Nat} (h : n < 256) : (∀ b ∈ dg n, isDig b = true) ∧ 1 ≤ (dg n).length ∧ (dg n).length ≤ 3 := by
  have := List.all_eq_true.1 dg_all n (List.mem_range.2 h)
  simp only [Bool.and_eq_true, List.all_eq_true, Nat.ble_eq] at this
  exact ⟨this.1.1, this.1.2, this.2⟩
theorem dg_not {n : Nat} (h : n < 256) {b : UInt8} (hb : isDig b = false) : b ∉ dg n := fun e => by rw [(dg_ok h).1 b e] at hb; cases hb
end Go.Proofs.YtcpigoljjbhkkaaGreatDoor.ft
namespace Go.Proofs.YtcpigoljjbhkkaaGreatDoor.ft
open Go Go.RowKit Go.Proofs.YtcpigoljjbhkkaaGreatDoor.Ev

set_option maxRecDepth 20000
theorem wrap_in {z : Int} (h1 : -9223372036854775808 ≤ z) (h2 : z < 9223372036854775808) : IntKind.i64.wrap z = z := by
  have h64 : (2 : Int) ^ 64 = 18446744073709551616 := by decide
  have h63 : (2 : Int) ^ (64 - 1) = 9223372036854775808 := by decide
  simp only [IntKind.wrap, IntKind.signed, IntKind.bits, h64, h63]
  by_cases hz : 0 ≤ z
  · rw [Int.emod_eq_of_lt hz (by omega)]
    simp [show ¬ (z ≥ 9223372036854775808) by omega]
  · have e : z % 18446744073709551616 = z + 18446744073709551616 := by omega
    rw [e]
    simp [show z + 18446744073709551616 ≥ 9223372036854775808 by omega]
theorem wrap_i64 {z : Int} (h1 : -9223372036854775808 ≤ z) (h2 : z < 9223372036854775808) : IntKind.i64.wrap z = z := wrap_in h1 h2
theorem wrap_u64 {z : Int} (h1 : 0 ≤ z) (h2 : z < 18446744073709551616) : IntKind.u64.wrap z = z := by
  have h64 : (2 : Int) ^ 64 = 18446744073709551616 := by decide
  simp only [IntKind.wrap, IntKind.signed, IntKind.bits, h64, Int.emod_eq_of_lt h1 h2, Bool.false_and, Bool.false_eq_true, if_false]
theorem wrap_u32 {z : Int} (h1 : 0 ≤ z) (h2 : z < 4294967296) : IntKind.u32.wrap z = z := by
  have h64 : (2 : Int) ^ 32 = 4294967296 := by decide
  simp only [IntKind.wrap, IntKind.signed, IntKind.bits, h64, Int.emod_eq_of_lt h1 h2, Bool.false_and, Bool.false_eq_true, if_false]
theorem wrap_u8 {z : Int} (h1 : 0 ≤ z) (h2 : z < 256) : IntKind.u8.wrap z = z := by
  have h64 : (2 : Int) ^ 8 = 256 := by decide
  simp only [IntKind.wrap, IntKind.signed, IntKind.bits, h64, Int.emod_eq_of_lt h1 h2, Bool.false_and, Bool.false_eq_true, if_false]
theorem wrap_i32 {z : Int} (h1 : -2147483648 ≤ z) (h2 : z < 2147483648) : IntKind.i32.wrap z = z := by
  have h64 : (2 : Int) ^ 32 = 4294967296 := by decide
  have h63 : (2 : Int) ^ (32 - 1) = 2147483648 := by decide
  simp only [IntKind.wrap, IntKind.signed, IntKind.bits, h64, h63]
  by_cases hz : 0 ≤ z
  · rw [Int.emod_eq_of_lt hz (by omega)]
    simp [show ¬ (z ≥ 2147483648) by omega]
  · have e : z % 4294967296 = z + 4294967296 := by omega
    rw [e]
    simp [show z + 4294967296 ≥ 2147483648 by omega]

/-! ### texts: lists of bytes -/
theorem ba_toList (l : List UInt8) : (⟨⟨l⟩⟩ : ByteArray).toList = l := by
  have h : ∀ (k : Nat) (i : Nat) (r : List UInt8), l.length - i = k → ByteArray.toList.loop ⟨⟨l⟩⟩ i r = r.reverse ++ l.drop i := by
    intro k
    induction k with
    | zero =>
      intro i r hk
      rw [ByteArray.toList.loop, if_neg (by show ¬ i < l.length; omega), List.drop_eq_nil_of_le (by omega), List.append_nil]
    | succ k ih =>
      intro i r hk
      rw [ByteArray.toList.loop, if_pos (by show i < l.length; omega), ih (i + 1) _ (by omega)]
      have hi : i < l.length := by omega
      have e : (⟨⟨l⟩⟩ : ByteArray).get! i = l[i] := by
        show (Array.mk l)[i]! = l[i]
        simp [hi]
      rw [e, List.reverse_cons, List.append_assoc, List.drop_eq_getElem_cons hi]
      rfl
  have := h l.length 0 [] (by omega)
  simpa [ByteArray.toList] using this
/-- The byte at a place. -/
def bAt (l : List UInt8) (i : Int) : Int := ((l[i.toNat]?).getD 0).toNat
theorem bAt_range (l : List UInt8) (i : Int) : 0 ≤ bAt l i ∧ bAt l i < 256 := by
  unfold bAt
  generalize (l[i.toNat]?).getD 0 = b
  have : b.toNat < 256 := UInt8.toNat_lt b
  omega
def tFrom (l : List UInt8) (i : Int) : List UInt8 := l.drop i.toNat
def tTo (l : List UInt8) (i : Int) : List UInt8 := l.take i.toNat
def tSub (l : List UInt8) (i j : Int) : List UInt8 := (l.drop i.toNat).take (j.toNat - i.toNat)
theorem ba_get {l : List UInt8} {i : Nat} : (⟨⟨l⟩⟩ : ByteArray)[i]? = l[i]? := by
  show (if h : i < l.length then some ((⟨⟨l⟩⟩ : ByteArray).get i h) else none) = _
  by_cases h : i < l.length
  · rw [dif_pos h, List.getElem?_eq_getElem h]; rfl
  · rw [dif_neg h, List.getElem?_eq_none (by omega)]
theorem ba_extract (l : List UInt8) (i j : Nat) : (⟨⟨l⟩⟩ : ByteArray).extract i j = ⟨⟨(l.drop i).take (j - i)⟩⟩ := by
  apply ByteArray.ext
  rw [ByteArray.data_extract]
  apply Array.ext'
  rw [Array.toList_extract]
def tS (l : List UInt8) : SV := .lit (.string ⟨⟨l⟩⟩)
set_option maxRecDepth 20000 in
theorem txt_at {l : List UInt8} {i : Int} (h0 : 0 ≤ i) (h1 : i < l.length) : indexQ Tryz.prog 9 (.lit (.string ⟨⟨l⟩⟩)) (.lit (.int .i64 i)) = some (.lit (.int .u8 (bAt l i))) := by
  have hi : i.toNat < l.length := by omega
  show (pureRun Tryz.prog (match (if 0 ≤ i then (⟨⟨l⟩⟩ : ByteArray)[i.toNat]? else none) with
    | some b => pure (.int .u8 b.toNat)
    | none => boundsPanic .i64 i (⟨⟨l⟩⟩ : ByteArray).size .index)).map SV.lit = _
  rw [if_pos h0, ba_get, List.getElem?_eq_getElem hi]
  simp only [bAt, List.getElem?_eq_getElem hi, Option.getD_some]
  rfl
theorem bound_in {i : Int} {n : Nat} {c : BoundsCode} (h0 : 0 ≤ i) (h1 : i ≤ n) : Instr.sliceBound (.int .i64 i) n c = pure i.toNat := by
  show (if 0 ≤ i ∧ i ≤ n then pure i.toNat else boundsPanic .i64 i n c) = _
  rw [if_pos ⟨h0, h1⟩]
theorem run_bind {α β : Type} (P : Program) (s : Sem α) (f : α → Sem β) : pureRun P (s >>= f) = (pureRun P s).bind fun a => pureRun P (f a) := by
  show pureRun P (s.bind f) = _
  induction s with
  | pure a => rfl
  | program k ih => exact ih P
  | mark m k ih => exact ih
  | _ => rfl
theorem bounds_both {P : Program} {n : Nat} {i j : Int} (h0 : 0 ≤ i) (h1 : i ≤ j) (h2 : j ≤ n) : pureRun P (Instr.sliceBounds false n n (some (.int .i64 i)) (some (.int .i64 j)) none) = some (i.toNat, j.toNat, n) := by
  show pureRun P (Instr.sliceBound (.int .i64 j) n .sliceAlen >>= fun h => Instr.sliceBound (.int .i64 i) h .sliceB >>= fun l => pure (l, h, n)) = _
  rw [bound_in (by omega) h2]
  show pureRun P (Instr.sliceBound (.int .i64 i) j.toNat .sliceB >>= fun l => pure (l, j.toNat, n)) = _
  rw [bound_in h0 (by omega)]
  rfl
theorem bounds_lo {P : Program} {n : Nat} {i : Int} (h0 : 0 ≤ i) (h1 : i ≤ n) : pureRun P (Instr.sliceBounds false n n (some (.int .i64 i)) none none) = some (i.toNat, n, n) := by
  show pureRun P (Instr.sliceBound (.int .i64 i) n .sliceB >>= fun l => pure (l, n, n)) = _
  rw [bound_in h0 h1]
  rfl
theorem bounds_hi {P : Program} {n : Nat} {j : Int} (h0 : 0 ≤ j) (h1 : j ≤ n) : pureRun P (Instr.sliceBounds false n n none (some (.int .i64 j)) none) = some (0, j.toNat, n) := by
  show pureRun P (Instr.sliceBound (.int .i64 j) n .sliceAlen >>= fun h => pure (0, h, n)) = _
  rw [bound_in h0 h1]
  rfl
set_option maxRecDepth 20000 in
theorem txt_sub {l : List UInt8} {i j : Int} (h0 : 0 ≤ i) (h1 : i ≤ j) (h2 : j ≤ l.length) : sliceQ Tryz.prog 9 (.lit (.string ⟨⟨l⟩⟩)) (some (.lit (.int .i64 i))) (some (.lit (.int .i64 j))) none = some (.lit (.string ⟨⟨tSub l i j⟩⟩)) := by
  show (pureRun Tryz.prog (Instr.sliceBounds false l.length l.length (some (.int .i64 i)) (some (.int .i64 j)) none >>= fun x => pure (.string ((⟨⟨l⟩⟩ : ByteArray).extract x.1 x.2.1)))).map SV.lit = _
  rw [run_bind, bounds_both h0 h1 h2]
  show some (SV.lit (.string ((⟨⟨l⟩⟩ : ByteArray).extract i.toNat j.toNat))) = _
  rw [ba_extract]
  rfl
set_option maxRecDepth 20000 in
theorem txt_from {l : List UInt8} {i : Int} (h0 : 0 ≤ i) (h1 : i ≤ l.length) : sliceQ Tryz.prog 9 (.lit (.string ⟨⟨l⟩⟩)) (some (.lit (.int .i64 i))) none none = some (.lit (.string ⟨⟨tFrom l i⟩⟩)) := by
  show (pureRun Tryz.prog (Instr.sliceBounds false l.length l.length (some (.int .i64 i)) none none >>= fun x => pure (.string ((⟨⟨l⟩⟩ : ByteArray).extract x.1 x.2.1)))).map SV.lit = _
  rw [run_bind, bounds_lo h0 h1]
  show some (SV.lit (.string ((⟨⟨l⟩⟩ : ByteArray).extract i.toNat l.length))) = _
  rw [ba_extract, List.take_of_length_le (by rw [List.length_drop]; omega)]
  rfl
set_option maxRecDepth 20000 in
theorem txt_to {l : List UInt8} {j : Int} (h0 : 0 ≤ j) (h1 : j ≤ l.length) : sliceQ Tryz.prog 9 (.lit (.string ⟨⟨l⟩⟩)) none (some (.lit (.int .i64 j))) none = some (.lit (.string ⟨⟨tTo l j⟩⟩)) := by
  show (pureRun Tryz.prog (Instr.sliceBounds false l.length l.length none (some (.int .i64 j)) none >>= fun x => pure (.string ((⟨⟨l⟩⟩ : ByteArray).extract x.1 x.2.1)))).map SV.lit = _
  rw [run_bind, bounds_hi h0 h1]
  show some (SV.lit (.string ((⟨⟨l⟩⟩ : ByteArray).extract 0 j.toNat))) = _
  rw [ba_extract]
  rfl
theorem tFrom_len {l : List UInt8} {i : Int} (h0 : 0 ≤ i) (h1 : i ≤ l.length) : ((tFrom l i).length : Int) = l.length - i := by
  rw [tFrom, List.length_drop]; omega
theorem tTo_len {l : List UInt8} {i : Int} (h0 : 0 ≤ i) (h1 : i ≤ l.length) : ((tTo l i).length : Int) = i := by
  rw [tTo, List.length_take]; omega
set_option maxRecDepth 20000 in
theorem t_eql {x y : Operand} {a b : List UInt8} : binQ Tryz.prog .eql 9 x y (.lit (.string ⟨⟨a⟩⟩)) (.lit (.string ⟨⟨b⟩⟩)) = some (.lit (.bool (decide (a = b)))) := by
  show some (SV.lit (.bool ((⟨⟨a⟩⟩ : ByteArray).toList == (⟨⟨b⟩⟩ : ByteArray).toList))) = _
  rw [ba_toList, ba_toList]
  by_cases h : a = b <;> simp [h]
set_option maxRecDepth 20000 in
theorem t_neq {x y : Operand} {a b : List UInt8} : binQ Tryz.prog .neq 9 x y (.lit (.string ⟨⟨a⟩⟩)) (.lit (.string ⟨⟨b⟩⟩)) = some (.lit (.bool (!decide (a = b)))) := by
  show some (SV.lit (.bool (!((⟨⟨a⟩⟩ : ByteArray).toList == (⟨⟨b⟩⟩ : ByteArray).toList)))) = _
  rw [ba_toList, ba_toList]
  by_cases h : a = b <;> simp [h]
theorem t_eqlT {x y : Operand} {a b : List UInt8} (h : a = b) : binQ Tryz.prog .eql 9 x y (.lit (.string ⟨⟨a⟩⟩)) (.lit (.string ⟨⟨b⟩⟩)) = some (.lit (.bool true)) := t_eql.trans (by rw [decide_eq_true h])
theorem t_eqlF {x y : Operand} {a b : List UInt8} (h : ¬ a = b) : binQ Tryz.prog .eql 9 x y (.lit (.string ⟨⟨a⟩⟩)) (.lit (.string ⟨⟨b⟩⟩)) = some (.lit (.bool false)) := t_eql.trans (by rw [decide_eq_false h])
theorem t_neqT {x y : Operand} {a b : List UInt8} (h : a = b) : binQ Tryz.prog .neq 9 x y (.lit (.string ⟨⟨a⟩⟩)) (.lit (.string ⟨⟨b⟩⟩)) = some (.lit (.bool false)) := t_neq.trans (by rw [decide_eq_true h]; rfl)
theorem t_neqF {x y : Operand} {a b : List UInt8} (h : ¬ a = b) : binQ Tryz.prog .neq 9 x y (.lit (.string ⟨⟨a⟩⟩)) (.lit (.string ⟨⟨b⟩⟩)) = some (.lit (.bool true)) := t_neq.trans (by rw [decide_eq_false h]; rfl)
theorem len_pos {l : List UInt8} (h : ¬ l = []) : 0 < (l.length : Int) := by
  cases l with
  | nil => exact absurd rfl h
  | cons a l => rw [List.length_cons]; omega
theorem fact_of {α : Type} {p : α → Prop} {a b : α} (h : a = b) (hp : p a) : p b := h ▸ hp
theorem pureRun_bind {α β : Type} (P : Program) (s : Sem α) (f : α → Sem β) : pureRun P (s >>= f) = (pureRun P s).bind fun a => pureRun P (f a) := run_bind P s f
theorem pureRun_pure {α : Type} (P : Program) (a : α) : pureRun P (pure a) = some a := rfl

theorem ba_beq (a b : List UInt8) : ((⟨⟨a⟩⟩ : ByteArray) == ⟨⟨b⟩⟩) = (a == b) := by
  show ((⟨a⟩ : Array UInt8) == ⟨b⟩) = _
  rw [Bool.eq_iff_iff, beq_iff_eq, beq_iff_eq]
  simp
/-- Texts put behind one another. -/
theorem t_add {x y : Operand} {a b : List UInt8} (h : a.length + b.length ≤ 1000000) : binQ Tryz.prog .add 9 x y (.lit (.string ⟨⟨a⟩⟩)) (.lit (.string ⟨⟨b⟩⟩)) = some (.lit (.string ⟨⟨a ++ b⟩⟩)) := by
  have hb : (⟨⟨a⟩⟩ ++ ⟨⟨b⟩⟩ : ByteArray) = ⟨⟨a ++ b⟩⟩ := by
    apply ByteArray.ext
    rw [ByteArray.data_append]
    simp
  have h1 : pureRun Tryz.prog (Op.stringOp .add ⟨⟨a⟩⟩ ⟨⟨b⟩⟩) = some (.string (⟨⟨a⟩⟩ ++ ⟨⟨b⟩⟩)) := by
    have hs : ¬ ((((⟨⟨a⟩⟩ : ByteArray).size + (⟨⟨b⟩⟩ : ByteArray).size : Nat) : Int) > IntKind.i64.max) := by
      show ¬ (((a.length + b.length : Nat) : Int) > IntKind.i64.max)
      have : IntKind.i64.max = 9223372036854775807 := by decide
      omega
    show pureRun Tryz.prog (if (((⟨⟨a⟩⟩ : ByteArray).size + (⟨⟨b⟩⟩ : ByteArray).size : Nat) : Int) > IntKind.i64.max then _ else pure (Value.string (⟨⟨a⟩⟩ ++ ⟨⟨b⟩⟩))) = _
    rw [if_neg hs]
    rfl
  show (pureRun Tryz.prog (Op.stringOp .add ⟨⟨a⟩⟩ ⟨⟨b⟩⟩)).map SV.lit = _
  rw [h1, hb]
  rfl
theorem t_len {a : List UInt8} : lenQ Tryz.prog ⟨.leaf, 0⟩ 9 (.lit (.string ⟨⟨a⟩⟩)) = some (.lit (.int .i64 a.length), []) := rfl
theorem c3_lss {x y : Operand} {a b : Int} : binQ Tryz.prog .lss 3 x y (.lit (.int .i64 a)) (.lit (.int .i64 b)) = some (.lit (.bool (decide (a < b)))) := rfl
theorem c3_lssT {x y : Operand} {a b : Int} (h : a < b) : binQ Tryz.prog .lss 3 x y (.lit (.int .i64 a)) (.lit (.int .i64 b)) = some (.lit (.bool true)) := c3_lss.trans (by rw [decide_eq_true h])
theorem c3_lssF {x y : Operand} {a b : Int} (h : ¬ (a < b)) : binQ Tryz.prog .lss 3 x y (.lit (.int .i64 a)) (.lit (.int .i64 b)) = some (.lit (.bool false)) := c3_lss.trans (by rw [decide_eq_false h])
theorem c3_leq {x y : Operand} {a b : Int} : binQ Tryz.prog .leq 3 x y (.lit (.int .i64 a)) (.lit (.int .i64 b)) = some (.lit (.bool (decide (a ≤ b)))) := rfl
theorem c3_leqT {x y : Operand} {a b : Int} (h : a ≤ b) : binQ Tryz.prog .leq 3 x y (.lit (.int .i64 a)) (.lit (.int .i64 b)) = some (.lit (.bool true)) := c3_leq.trans (by rw [decide_eq_true h])
theorem c3_leqF {x y : Operand} {a b : Int} (h : ¬ (a ≤ b)) : binQ Tryz.prog .leq 3 x y (.lit (.int .i64 a)) (.lit (.int .i64 b)) = some (.lit (.bool false)) := c3_leq.trans (by rw [decide_eq_false h])
theorem c3_gtr {x y : Operand} {a b : Int} : binQ Tryz.prog .gtr 3 x y (.lit (.int .i64 a)) (.lit (.int .i64 b)) = some (.lit (.bool (decide (a > b)))) := rfl
theorem c3_gtrT {x y : Operand} {a b : Int} (h : a > b) : binQ Tryz.prog .gtr 3 x y (.lit (.int .i64 a)) (.lit (.int .i64 b)) = some (.lit (.bool true)) := c3_gtr.trans (by rw [decide_eq_true h])
theorem c3_gtrF {x y : Operand} {a b : Int} (h : ¬ (a > b)) : binQ Tryz.prog .gtr 3 x y (.lit (.int .i64 a)) (.lit (.int .i64 b)) = some (.lit (.bool false)) := c3_gtr.trans (by rw [decide_eq_false h])
theorem c3_geq {x y : Operand} {a b : Int} : binQ Tryz.prog .geq 3 x y (.lit (.int .i64 a)) (.lit (.int .i64 b)) = some (.lit (.bool (decide (a ≥ b)))) := rfl
theorem c3_geqT {x y : Operand} {a b : Int} (h : a ≥ b) : binQ Tryz.prog .geq 3 x y (.lit (.int .i64 a)) (.lit (.int .i64 b)) = some (.lit (.bool true)) := c3_geq.trans (by rw [decide_eq_true h])
theorem c3_geqF {x y : Operand} {a b : Int} (h : ¬ (a ≥ b)) : binQ Tryz.prog .geq 3 x y (.lit (.int .i64 a)) (.lit (.int .i64 b)) = some (.lit (.bool false)) := c3_geq.trans (by rw [decide_eq_false h])
theorem c3_eql {x y : Operand} {a b : Int} : binQ Tryz.prog .eql 3 x y (.lit (.int .i64 a)) (.lit (.int .i64 b)) = some (.lit (.bool (decide (a = b)))) := by
  show some (SV.lit (.bool (a == b))) = _
  by_cases h : a = b <;> simp [h]
theorem c3_eqlT {x y : Operand} {a b : Int} (h : a = b) : binQ Tryz.prog .eql 3 x y (.lit (.int .i64 a)) (.lit (.int .i64 b)) = some (.lit (.bool true)) := c3_eql.trans (by rw [decide_eq_true h])
theorem c3_eqlF {x y : Operand} {a b : Int} (h : ¬ (a = b)) : binQ Tryz.prog .eql 3 x y (.lit (.int .i64 a)) (.lit (.int .i64 b)) = some (.lit (.bool false)) := c3_eql.trans (by rw [decide_eq_false h])
theorem c3_neq {x y : Operand} {a b : Int} : binQ Tryz.prog .neq 3 x y (.lit (.int .i64 a)) (.lit (.int .i64 b)) = some (.lit (.bool (decide (a ≠ b)))) := by
  show some (SV.lit (.bool (!(a == b)))) = _
  by_cases h : a = b <;> simp [h]
theorem c3_neqT {x y : Operand} {a b : Int} (h : a ≠ b) : binQ Tryz.prog .neq 3 x y (.lit (.int .i64 a)) (.lit (.int .i64 b)) = some (.lit (.bool true)) := c3_neq.trans (by rw [decide_eq_true h])
theorem c3_neqF {x y : Operand} {a b : Int} (h : ¬ (a ≠ b)) : binQ Tryz.prog .neq 3 x y (.lit (.int .i64 a)) (.lit (.int .i64 b)) = some (.lit (.bool false)) := c3_neq.trans (by rw [decide_eq_false h])
theorem w3_add {x y : Operand} {a b : Int} : binQ Tryz.prog .add 3 x y (.lit (.int .i64 a)) (.lit (.int .i64 b)) = some (.lit (.int .i64 (IntKind.i64.wrap (a + b)))) := rfl
theorem a3_add {x y : Operand} {a b c : Int} (h : a + b = c) (h1 : -9223372036854775808 ≤ c) (h2 : c < 9223372036854775808) : binQ Tryz.prog .add 3 x y (.lit (.int .i64 a)) (.lit (.int .i64 b)) = some (.lit (.int .i64 c)) := by
  rw [w3_add, h, wrap_i64 h1 h2]
theorem w3_sub {x y : Operand} {a b : Int} : binQ Tryz.prog .sub 3 x y (.lit (.int .i64 a)) (.lit (.int .i64 b)) = some (.lit (.int .i64 (IntKind.i64.wrap (a - b)))) := rfl
theorem a3_sub {x y : Operand} {a b c : Int} (h : a - b = c) (h1 : -9223372036854775808 ≤ c) (h2 : c < 9223372036854775808) : binQ Tryz.prog .sub 3 x y (.lit (.int .i64 a)) (.lit (.int .i64 b)) = some (.lit (.int .i64 c)) := by
  rw [w3_sub, h, wrap_i64 h1 h2]
theorem w3_mul {x y : Operand} {a b : Int} : binQ Tryz.prog .mul 3 x y (.lit (.int .i64 a)) (.lit (.int .i64 b)) = some (.lit (.int .i64 (IntKind.i64.wrap (a * b)))) := rfl
theorem a3_mul {x y : Operand} {a b c : Int} (h : a * b = c) (h1 : -9223372036854775808 ≤ c) (h2 : c < 9223372036854775808) : binQ Tryz.prog .mul 3 x y (.lit (.int .i64 a)) (.lit (.int .i64 b)) = some (.lit (.int .i64 c)) := by
  rw [w3_mul, h, wrap_i64 h1 h2]
theorem a3_quo {x y : Operand} {a b : Int} (h0 : 0 ≤ a) (h1 : 0 < b) (h2 : a < 9223372036854775808) : binQ Tryz.prog .quo 3 x y (.lit (.int .i64 a)) (.lit (.int .i64 b)) = some (.lit (.int .i64 (a / b))) := by
  have hb : b ≠ 0 := by omega
  have h3 : a / b ≤ a := Int.ediv_le_self b h0
  have h4 : 0 ≤ a / b := Int.ediv_nonneg h0 (by omega)
  show (pureRun Tryz.prog (Op.intDiv .quo .i64 a b)).map SV.lit = _
  simp only [Op.intDiv, if_neg hb, Int.tdiv_eq_ediv_of_nonneg h0, wrap_i64 (show -9223372036854775808 ≤ a / b by omega) (show a / b < 9223372036854775808 by omega)]
  rfl
theorem a3_rem {x y : Operand} {a b : Int} (h0 : 0 ≤ a) (h1 : 0 < b) (_h2 : a < 9223372036854775808) : binQ Tryz.prog .rem 3 x y (.lit (.int .i64 a)) (.lit (.int .i64 b)) = some (.lit (.int .i64 (a % b))) := by
  have hb : b ≠ 0 := by omega
  show (pureRun Tryz.prog (Op.intDiv .rem .i64 a b)).map SV.lit = _
  simp only [Op.intDiv, if_neg hb, Int.tmod_eq_emod_of_nonneg h0]
  rfl
theorem c5_lss {x y : Operand} {a b : Int} : binQ Tryz.prog .lss 5 x y (.lit (.int .u8 a)) (.lit (.int .u8 b)) = some (.lit (.bool (decide (a < b)))) := rfl
theorem c5_lssT {x y : Operand} {a b : Int} (h : a < b) : binQ Tryz.prog .lss 5 x y (.lit (.int .u8 a)) (.lit (.int .u8 b)) = some (.lit (.bool true)) := c5_lss.trans (by rw [decide_eq_true h])
theorem c5_lssF {x y : Operand} {a b : Int} (h : ¬ (a < b)) : binQ Tryz.prog .lss 5 x y (.lit (.int .u8 a)) (.lit (.int .u8 b)) = some (.lit (.bool false)) := c5_lss.trans (by rw [decide_eq_false h])
theorem c5_leq {x y : Operand} {a b : Int} : binQ Tryz.prog .leq 5 x y (.lit (.int .u8 a)) (.lit (.int .u8 b)) = some (.lit (.bool (decide (a ≤ b)))) := rfl
theorem c5_leqT {x y : Operand} {a b : Int} (h : a ≤ b) : binQ Tryz.prog .leq 5 x y (.lit (.int .u8 a)) (.lit (.int .u8 b)) = some (.lit (.bool true)) := c5_leq.trans (by rw [decide_eq_true h])
theorem c5_leqF {x y : Operand} {a b : Int} (h : ¬ (a ≤ b)) : binQ Tryz.prog .leq 5 x y (.lit (.int .u8 a)) (.lit (.int .u8 b)) = some (.lit (.bool false)) := c5_leq.trans (by rw [decide_eq_false h])
theorem c5_gtr {x y : Operand} {a b : Int} : binQ Tryz.prog .gtr 5 x y (.lit (.int .u8 a)) (.lit (.int .u8 b)) = some (.lit (.bool (decide (a > b)))) := rfl
theorem c5_gtrT {x y : Operand} {a b : Int} (h : a > b) : binQ Tryz.prog .gtr 5 x y (.lit (.int .u8 a)) (.lit (.int .u8 b)) = some (.lit (.bool true)) := c5_gtr.trans (by rw [decide_eq_true h])
theorem c5_gtrF {x y : Operand} {a b : Int} (h : ¬ (a > b)) : binQ Tryz.prog .gtr 5 x y (.lit (.int .u8 a)) (.lit (.int .u8 b)) = some (.lit (.bool false)) := c5_gtr.trans (by rw [decide_eq_false h])
theorem c5_geq {x y : Operand} {a b : Int} : binQ Tryz.prog .geq 5 x y (.lit (.int .u8 a)) (.lit (.int .u8 b)) = some (.lit (.bool (decide (a ≥ b)))) := rfl
theorem c5_geqT {x y : Operand} {a b : Int} (h : a ≥ b) : binQ Tryz.prog .geq 5 x y (.lit (.int .u8 a)) (.lit (.int .u8 b)) = some (.lit (.bool true)) := c5_geq.trans (by rw [decide_eq_true h])
theorem c5_geqF {x y : Operand} {a b : Int} (h : ¬ (a ≥ b)) : binQ Tryz.prog .geq 5 x y (.lit (.int .u8 a)) (.lit (.int .u8 b)) = some (.lit (.bool false)) := c5_geq.trans (by rw [decide_eq_false h])
theorem c5_eql {x y : Operand} {a b : Int} : binQ Tryz.prog .eql 5 x y (.lit (.int .u8 a)) (.lit (.int .u8 b)) = some (.lit (.bool (decide (a = b)))) := by
  show some (SV.lit (.bool (a == b))) = _
  by_cases h : a = b <;> simp [h]
theorem c5_eqlT {x y : Operand} {a b : Int} (h : a = b) : binQ Tryz.prog .eql 5 x y (.lit (.int .u8 a)) (.lit (.int .u8 b)) = some (.lit (.bool true)) := c5_eql.trans (by rw [decide_eq_true h])
theorem c5_eqlF {x y : Operand} {a b : Int} (h : ¬ (a = b)) : binQ Tryz.prog .eql 5 x y (.lit (.int .u8 a)) (.lit (.int .u8 b)) = some (.lit (.bool false)) := c5_eql.trans (by rw [decide_eq_false h])
theorem c5_neq {x y : Operand} {a b : Int} : binQ Tryz.prog .neq 5 x y (.lit (.int .u8 a)) (.lit (.int .u8 b)) = some (.lit (.bool (decide (a ≠ b)))) := by
  show some (SV.lit (.bool (!(a == b)))) = _
  by_cases h : a = b <;> simp [h]
theorem c5_neqT {x y : Operand} {a b : Int} (h : a ≠ b) : binQ Tryz.prog .neq 5 x y (.lit (.int .u8 a)) (.lit (.int .u8 b)) = some (.lit (.bool true)) := c5_neq.trans (by rw [decide_eq_true h])
theorem c5_neqF {x y : Operand} {a b : Int} (h : ¬ (a ≠ b)) : binQ Tryz.prog .neq 5 x y (.lit (.int .u8 a)) (.lit (.int .u8 b)) = some (.lit (.bool false)) := c5_neq.trans (by rw [decide_eq_false h])
theorem w5_add {x y : Operand} {a b : Int} : binQ Tryz.prog .add 5 x y (.lit (.int .u8 a)) (.lit (.int .u8 b)) = some (.lit (.int .u8 (IntKind.u8.wrap (a + b)))) := rfl
theorem a5_add {x y : Operand} {a b c : Int} (h : a + b = c) (h1 : 0 ≤ c) (h2 : c < 256) : binQ Tryz.prog .add 5 x y (.lit (.int .u8 a)) (.lit (.int .u8 b)) = some (.lit (.int .u8 c)) := by
  rw [w5_add, h, wrap_u8 h1 h2]
theorem w5_sub {x y : Operand} {a b : Int} : binQ Tryz.prog .sub 5 x y (.lit (.int .u8 a)) (.lit (.int .u8 b)) = some (.lit (.int .u8 (IntKind.u8.wrap (a - b)))) := rfl
theorem a5_sub {x y : Operand} {a b c : Int} (h : a - b = c) (h1 : 0 ≤ c) (h2 : c < 256) : binQ Tryz.prog .sub 5 x y (.lit (.int .u8 a)) (.lit (.int .u8 b)) = some (.lit (.int .u8 c)) := by
  rw [w5_sub, h, wrap_u8 h1 h2]
theorem w5_mul {x y : Operand} {a b : Int} : binQ Tryz.prog .mul 5 x y (.lit (.int .u8 a)) (.lit (.int .u8 b)) = some (.lit (.int .u8 (IntKind.u8.wrap (a * b)))) := rfl
theorem a5_mul {x y : Operand} {a b c : Int} (h : a * b = c) (h1 : 0 ≤ c) (h2 : c < 256) : binQ Tryz.prog .mul 5 x y (.lit (.int .u8 a)) (.lit (.int .u8 b)) = some (.lit (.int .u8 c)) := by
  rw [w5_mul, h, wrap_u8 h1 h2]
theorem a5_quo {x y : Operand} {a b : Int} (h0 : 0 ≤ a) (h1 : 0 < b) (h2 : a < 256) : binQ Tryz.prog .quo 5 x y (.lit (.int .u8 a)) (.lit (.int .u8 b)) = some (.lit (.int .u8 (a / b))) := by
  have hb : b ≠ 0 := by omega
  have h3 : a / b ≤ a := Int.ediv_le_self b h0
  have h4 : 0 ≤ a / b := Int.ediv_nonneg h0 (by omega)
  show (pureRun Tryz.prog (Op.intDiv .quo .u8 a b)).map SV.lit = _
  simp only [Op.intDiv, if_neg hb, Int.tdiv_eq_ediv_of_nonneg h0, wrap_u8 (show 0 ≤ a / b by omega) (show a / b < 256 by omega)]
  rfl
theorem a5_rem {x y : Operand} {a b : Int} (h0 : 0 ≤ a) (h1 : 0 < b) (_h2 : a < 256) : binQ Tryz.prog .rem 5 x y (.lit (.int .u8 a)) (.lit (.int .u8 b)) = some (.lit (.int .u8 (a % b))) := by
  have hb : b ≠ 0 := by omega
  show (pureRun Tryz.prog (Op.intDiv .rem .u8 a b)).map SV.lit = _
  simp only [Op.intDiv, if_neg hb, Int.tmod_eq_emod_of_nonneg h0]
  rfl

noncomputable def s46_fs : Array Field := match Tryz.prog.underlying 46 with
  | some (.struct fs) => fs
  | _ => #[]
noncomputable def s46_f (i : Nat) : Field := match s46_fs[i]? with
  | some f => f
  | none => default
theorem s46_eq : s46_fs = #[s46_f 0, s46_f 1] := by kernel_rfl
theorem s46_u : pureRun Tryz.prog (underlying 46) = some (.struct s46_fs) := by kernel_rfl
theorem s46_h : Tryz.prog.stoodInHeld 46 = false := by kernel_rfl
theorem s46_n0 : (s46_f 0).name ≠ "_" := of_decide_eq_true (by kernel_rfl)
theorem s46_t0 : (s46_f 0).type = 3 := by kernel_rfl
theorem s46_p0 (a0 : Int) (a1 : Int) : pureRun Tryz.prog (part 3 #[.int .i64 a0, .int .i64 a1] (s46_f 0).offset) = some (.int .i64 a0) := by kernel_rfl
theorem s46_e0 (m : Nat) (a0 b0 : Int) : pureRun Tryz.prog (Op.equalIn (m + 1) 3 (.int .i64 a0) (.int .i64 b0)) = some (a0 == b0) := by kernel_rfl
theorem s46_n1 : (s46_f 1).name ≠ "_" := of_decide_eq_true (by kernel_rfl)
theorem s46_t1 : (s46_f 1).type = 3 := by kernel_rfl
theorem s46_p1 (a0 : Int) (a1 : Int) : pureRun Tryz.prog (part 3 #[.int .i64 a0, .int .i64 a1] (s46_f 1).offset) = some (.int .i64 a1) := by kernel_rfl
theorem s46_e1 (m : Nat) (a1 b1 : Int) : pureRun Tryz.prog (Op.equalIn (m + 1) 3 (.int .i64 a1) (.int .i64 b1)) = some (a1 == b1) := by kernel_rfl
def s46_B (a0 b0 : Int) (a1 b1 : Int) : Bool := (a0 == b0) && (a1 == b1)
set_option maxRecDepth 100000 in
set_option maxHeartbeats 4000000 in
theorem s46_all (m : Nat) (a0 b0 : Int) (a1 b1 : Int) : pureRun Tryz.prog (Op.equalIn (m + 2) 46 (.agg #[.int .i64 a0, .int .i64 a1]) (.agg #[.int .i64 b0, .int .i64 b1])) = some (s46_B a0 b0 a1 b1) := by
  have hp : pureRun Tryz.prog program = some Tryz.prog := rfl
  show pureRun Tryz.prog (Op.equalIn ((m + 1) + 1) 46 (.agg #[.int .i64 a0, .int .i64 a1]) (.agg #[.int .i64 b0, .int .i64 b1])) = _
  rw [Op.equalIn, pureRun_bind, s46_u]
  simp only [Option.bind_some]
  rw [pureRun_bind, hp]
  simp only [Option.bind_some, s46_h, Bool.false_eq_true, if_false]
  rw [pureRun_bind, s46_eq, List.forIn_toArray]
  simp only [List.forIn_cons, List.forIn_nil, s46_B]
  simp only [if_pos s46_n0, if_pos s46_n1, pureRun_bind, Option.bind_some, s46_p0, s46_t0, s46_t1, s46_e0]
  cases (a0 == b0) with
  | false => rfl
  | true =>
    try simp only [Bool.not_true, Bool.false_eq_true, if_false, Bool.true_and, pureRun_bind, pureRun_pure, Option.bind_some, s46_p1, s46_e0]
    cases (a1 == b1) <;> rfl
set_option maxRecDepth 100000 in
theorem s46_BP (a0 b0 : Int) (a1 b1 : Int) : s46_B a0 b0 a1 b1 = decide (a0 = b0 ∧ a1 = b1) := by
  rw [Bool.eq_iff_iff]
  simp [s46_B]
theorem s46_geql (x y : Operand) (a0 b0 : Int) (a1 b1 : Int) : pureRun Tryz.prog (eqGuard .eql 46 x y (.agg #[.int .i64 a0, .int .i64 a1]) (.agg #[.int .i64 b0, .int .i64 b1])) = some () := by kernel_rfl
theorem s46_beql (a0 b0 : Int) (a1 b1 : Int) : binOp .eql 46 (.agg #[.int .i64 a0, .int .i64 a1]) (.agg #[.int .i64 b0, .int .i64 b1]) = (Op.equal 46 (.agg #[.int .i64 a0, .int .i64 a1]) (.agg #[.int .i64 b0, .int .i64 b1]) >>= fun r => pure (.bool r)) := by kernel_rfl
theorem s46_qeql (x y : Operand) (a0 b0 : Int) (a1 b1 : Int) : binQ Tryz.prog .eql 46 x y (.agg [.lit (.int .i64 a0), .lit (.int .i64 a1)]) (.agg [.lit (.int .i64 b0), .lit (.int .i64 b1)]) = (pureRun Tryz.prog (eqGuard .eql 46 x y (.agg #[.int .i64 a0, .int .i64 a1]) (.agg #[.int .i64 b0, .int .i64 b1]) >>= fun _ => binOp .eql 46 (.agg #[.int .i64 a0, .int .i64 a1]) (.agg #[.int .i64 b0, .int .i64 b1]))).map .lit := by kernel_rfl
set_option maxRecDepth 100000 in
theorem s46_eql {x y : Operand} {a0 b0 : Int} {a1 b1 : Int} : binQ Tryz.prog .eql 46 x y (.agg [.lit (.int .i64 a0), .lit (.int .i64 a1)]) (.agg [.lit (.int .i64 b0), .lit (.int .i64 b1)]) = some (.lit (.bool (decide (a0 = b0 ∧ a1 = b1)))) := by
  rw [s46_qeql, pureRun_bind, s46_geql, Option.bind_some, s46_beql, pureRun_bind]
  have := s46_all 9998 a0 b0 a1 b1
  rw [show Op.equal 46 (.agg #[.int .i64 a0, .int .i64 a1]) (.agg #[.int .i64 b0, .int .i64 b1]) = Op.equalIn (9998 + 2) 46 (.agg #[.int .i64 a0, .int .i64 a1]) (.agg #[.int .i64 b0, .int .i64 b1]) from rfl, this, ← s46_BP]
  rfl
theorem s46_eqlT {x y : Operand} {a0 b0 : Int} {a1 b1 : Int} (h : a0 = b0 ∧ a1 = b1) : binQ Tryz.prog .eql 46 x y (.agg [.lit (.int .i64 a0), .lit (.int .i64 a1)]) (.agg [.lit (.int .i64 b0), .lit (.int .i64 b1)]) = some (.lit (.bool true)) := s46_eql.trans (by rw [decide_eq_true h])
theorem s46_eqlF {x y : Operand} {a0 b0 : Int} {a1 b1 : Int} (h : ¬ (a0 = b0 ∧ a1 = b1)) : binQ Tryz.prog .eql 46 x y (.agg [.lit (.int .i64 a0), .lit (.int .i64 a1)]) (.agg [.lit (.int .i64 b0), .lit (.int .i64 b1)]) = some (.lit (.bool false)) := s46_eql.trans (by rw [decide_eq_false h])
theorem s46_gneq (x y : Operand) (a0 b0 : Int) (a1 b1 : Int) : pureRun Tryz.prog (eqGuard .neq 46 x y (.agg #[.int .i64 a0, .int .i64 a1]) (.agg #[.int .i64 b0, .int .i64 b1])) = some () := by kernel_rfl
theorem s46_bneq (a0 b0 : Int) (a1 b1 : Int) : binOp .neq 46 (.agg #[.int .i64 a0, .int .i64 a1]) (.agg #[.int .i64 b0, .int .i64 b1]) = (Op.equal 46 (.agg #[.int .i64 a0, .int .i64 a1]) (.agg #[.int .i64 b0, .int .i64 b1]) >>= fun r => pure (.bool (!r))) := by kernel_rfl
theorem s46_qneq (x y : Operand) (a0 b0 : Int) (a1 b1 : Int) : binQ Tryz.prog .neq 46 x y (.agg [.lit (.int .i64 a0), .lit (.int .i64 a1)]) (.agg [.lit (.int .i64 b0), .lit (.int .i64 b1)]) = (pureRun Tryz.prog (eqGuard .neq 46 x y (.agg #[.int .i64 a0, .int .i64 a1]) (.agg #[.int .i64 b0, .int .i64 b1]) >>= fun _ => binOp .neq 46 (.agg #[.int .i64 a0, .int .i64 a1]) (.agg #[.int .i64 b0, .int .i64 b1]))).map .lit := by kernel_rfl
set_option maxRecDepth 100000 in
theorem s46_neq {x y : Operand} {a0 b0 : Int} {a1 b1 : Int} : binQ Tryz.prog .neq 46 x y (.agg [.lit (.int .i64 a0), .lit (.int .i64 a1)]) (.agg [.lit (.int .i64 b0), .lit (.int .i64 b1)]) = some (.lit (.bool (!decide (a0 = b0 ∧ a1 = b1)))) := by
  rw [s46_qneq, pureRun_bind, s46_gneq, Option.bind_some, s46_bneq, pureRun_bind]
  have := s46_all 9998 a0 b0 a1 b1
  rw [show Op.equal 46 (.agg #[.int .i64 a0, .int .i64 a1]) (.agg #[.int .i64 b0, .int .i64 b1]) = Op.equalIn (9998 + 2) 46 (.agg #[.int .i64 a0, .int .i64 a1]) (.agg #[.int .i64 b0, .int .i64 b1]) from rfl, this, ← s46_BP]
  rfl
theorem s46_neqT {x y : Operand} {a0 b0 : Int} {a1 b1 : Int} (h : a0 = b0 ∧ a1 = b1) : binQ Tryz.prog .neq 46 x y (.agg [.lit (.int .i64 a0), .lit (.int .i64 a1)]) (.agg [.lit (.int .i64 b0), .lit (.int .i64 b1)]) = some (.lit (.bool false)) := s46_neq.trans (by rw [decide_eq_true h]; rfl)
theorem s46_neqF {x y : Operand} {a0 b0 : Int} {a1 b1 : Int} (h : ¬ (a0 = b0 ∧ a1 = b1)) : binQ Tryz.prog .neq 46 x y (.agg [.lit (.int .i64 a0), .lit (.int .i64 a1)]) (.agg [.lit (.int .i64 b0), .lit (.int .i64 b1)]) = some (.lit (.bool true)) := s46_neq.trans (by rw [decide_eq_false h]; rfl)
noncomputable def s48_fs : Array Field := match Tryz.prog.underlying 48 with
  | some (.struct fs) => fs
  | _ => #[]
noncomputable def s48_f (i : Nat) : Field := match s48_fs[i]? with
  | some f => f
  | none => default
theorem s48_eq : s48_fs = #[s48_f 0, s48_f 1, s48_f 2, s48_f 3, s48_f 4] := by kernel_rfl
theorem s48_u : pureRun Tryz.prog (underlying 48) = some (.struct s48_fs) := by kernel_rfl
theorem s48_h : Tryz.prog.stoodInHeld 48 = false := by kernel_rfl
theorem s48_n0 : (s48_f 0).name ≠ "_" := of_decide_eq_true (by kernel_rfl)
theorem s48_t0 : (s48_f 0).type = 3 := by kernel_rfl
theorem s48_p0 (a0 : Int) (a1 : Int) (a2 : Int) (a3 : List UInt8) (a4 : Bool) (a5 : Int) : pureRun Tryz.prog (part 3 #[.int .i64 a0, .int .i64 a1, .int .i64 a2, .string ⟨⟨a3⟩⟩, .bool a4, .int .i64 a5] (s48_f 0).offset) = some (.int .i64 a0) := by kernel_rfl
theorem s48_e0 (m : Nat) (a0 b0 : Int) : pureRun Tryz.prog (Op.equalIn (m + 1) 3 (.int .i64 a0) (.int .i64 b0)) = some (a0 == b0) := by kernel_rfl
theorem s48_n1 : (s48_f 1).name ≠ "_" := of_decide_eq_true (by kernel_rfl)
theorem s48_t1 : (s48_f 1).type = 46 := by kernel_rfl
theorem s48_p1 (a0 : Int) (a1 : Int) (a2 : Int) (a3 : List UInt8) (a4 : Bool) (a5 : Int) : pureRun Tryz.prog (part 46 #[.int .i64 a0, .int .i64 a1, .int .i64 a2, .string ⟨⟨a3⟩⟩, .bool a4, .int .i64 a5] (s48_f 1).offset) = some (.agg #[.int .i64 a1, .int .i64 a2]) := by kernel_rfl
theorem s48_n2 : (s48_f 2).name ≠ "_" := of_decide_eq_true (by kernel_rfl)
theorem s48_t2 : (s48_f 2).type = 9 := by kernel_rfl
theorem s48_p2 (a0 : Int) (a1 : Int) (a2 : Int) (a3 : List UInt8) (a4 : Bool) (a5 : Int) : pureRun Tryz.prog (part 9 #[.int .i64 a0, .int .i64 a1, .int .i64 a2, .string ⟨⟨a3⟩⟩, .bool a4, .int .i64 a5] (s48_f 2).offset) = some (.string ⟨⟨a3⟩⟩) := by kernel_rfl
theorem s48_e2 (m : Nat) (a3 b3 : List UInt8) : pureRun Tryz.prog (Op.equalIn (m + 1) 9 (.string ⟨⟨a3⟩⟩) (.string ⟨⟨b3⟩⟩)) = some (a3 == b3) := by
  have h : pureRun Tryz.prog (Op.equalIn (m + 1) 9 (.string ⟨⟨a3⟩⟩) (.string ⟨⟨b3⟩⟩)) = some ((⟨⟨a3⟩⟩ : ByteArray) == ⟨⟨b3⟩⟩) := by kernel_rfl
  rw [h, ba_beq]
theorem s48_n3 : (s48_f 3).name ≠ "_" := of_decide_eq_true (by kernel_rfl)
theorem s48_t3 : (s48_f 3).type = 4 := by kernel_rfl
theorem s48_p3 (a0 : Int) (a1 : Int) (a2 : Int) (a3 : List UInt8) (a4 : Bool) (a5 : Int) : pureRun Tryz.prog (part 4 #[.int .i64 a0, .int .i64 a1, .int .i64 a2, .string ⟨⟨a3⟩⟩, .bool a4, .int .i64 a5] (s48_f 3).offset) = some (.bool a4) := by kernel_rfl
theorem s48_e3 (m : Nat) (a4 b4 : Bool) : pureRun Tryz.prog (Op.equalIn (m + 1) 4 (.bool a4) (.bool b4)) = some (a4 == b4) := by kernel_rfl
theorem s48_n4 : (s48_f 4).name ≠ "_" := of_decide_eq_true (by kernel_rfl)
theorem s48_t4 : (s48_f 4).type = 3 := by kernel_rfl
theorem s48_p4 (a0 : Int) (a1 : Int) (a2 : Int) (a3 : List UInt8) (a4 : Bool) (a5 : Int) : pureRun Tryz.prog (part 3 #[.int .i64 a0, .int .i64 a1, .int .i64 a2, .string ⟨⟨a3⟩⟩, .bool a4, .int .i64 a5] (s48_f 4).offset) = some (.int .i64 a5) := by kernel_rfl
theorem s48_e4 (m : Nat) (a5 b5 : Int) : pureRun Tryz.prog (Op.equalIn (m + 1) 3 (.int .i64 a5) (.int .i64 b5)) = some (a5 == b5) := by kernel_rfl
def s48_B (a0 b0 : Int) (a1 b1 : Int) (a2 b2 : Int) (a3 b3 : List UInt8) (a4 b4 : Bool) (a5 b5 : Int) : Bool := (a0 == b0) && (s46_B a1 b1 a2 b2) && (a3 == b3) && (a4 == b4) && (a5 == b5)
set_option maxRecDepth 100000 in
set_option maxHeartbeats 4000000 in
theorem s48_all (m : Nat) (a0 b0 : Int) (a1 b1 : Int) (a2 b2 : Int) (a3 b3 : List UInt8) (a4 b4 : Bool) (a5 b5 : Int) : pureRun Tryz.prog (Op.equalIn (m + 3) 48 (.agg #[.int .i64 a0, .int .i64 a1, .int .i64 a2, .string ⟨⟨a3⟩⟩, .bool a4, .int .i64 a5]) (.agg #[.int .i64 b0, .int .i64 b1, .int .i64 b2, .string ⟨⟨b3⟩⟩, .bool b4, .int .i64 b5])) = some (s48_B a0 b0 a1 b1 a2 b2 a3 b3 a4 b4 a5 b5) := by
  have hp : pureRun Tryz.prog program = some Tryz.prog := rfl
  show pureRun Tryz.prog (Op.equalIn ((m + 2) + 1) 48 (.agg #[.int .i64 a0, .int .i64 a1, .int .i64 a2, .string ⟨⟨a3⟩⟩, .bool a4, .int .i64 a5]) (.agg #[.int .i64 b0, .int .i64 b1, .int .i64 b2, .string ⟨⟨b3⟩⟩, .bool b4, .int .i64 b5])) = _
  rw [Op.equalIn, pureRun_bind, s48_u]
  simp only [Option.bind_some]
  rw [pureRun_bind, hp]
  simp only [Option.bind_some, s48_h, Bool.false_eq_true, if_false]
  rw [pureRun_bind, s48_eq, List.forIn_toArray]
  simp only [List.forIn_cons, List.forIn_nil, s48_B]
  simp only [if_pos s48_n0, if_pos s48_n1, if_pos s48_n2, if_pos s48_n3, if_pos s48_n4, pureRun_bind, Option.bind_some, s48_p0, s48_t0, s48_t1, s48_t2, s48_t3, s48_t4, s48_e0]
  cases (a0 == b0) with
  | false => rfl
  | true =>
    try simp only [Bool.not_true, Bool.false_eq_true, if_false, Bool.true_and, pureRun_bind, pureRun_pure, Option.bind_some, s48_p1, s46_all]
    cases (s46_B a1 b1 a2 b2) with
    | false => rfl
    | true =>
      try simp only [Bool.not_true, Bool.false_eq_true, if_false, Bool.true_and, pureRun_bind, pureRun_pure, Option.bind_some, s48_p2, s48_e2]
      cases (a3 == b3) with
      | false => rfl
      | true =>
        try simp only [Bool.not_true, Bool.false_eq_true, if_false, Bool.true_and, pureRun_bind, pureRun_pure, Option.bind_some, s48_p3, s48_e3]
        cases (a4 == b4) with
        | false => rfl
        | true =>
          try simp only [Bool.not_true, Bool.false_eq_true, if_false, Bool.true_and, pureRun_bind, pureRun_pure, Option.bind_some, s48_p4, s48_e0]
          cases (a5 == b5) <;> rfl
set_option maxRecDepth 100000 in
theorem s48_BP (a0 b0 : Int) (a1 b1 : Int) (a2 b2 : Int) (a3 b3 : List UInt8) (a4 b4 : Bool) (a5 b5 : Int) : s48_B a0 b0 a1 b1 a2 b2 a3 b3 a4 b4 a5 b5 = decide (a0 = b0 ∧ a1 = b1 ∧ a2 = b2 ∧ a3 = b3 ∧ a4 = b4 ∧ a5 = b5) := by
  rw [Bool.eq_iff_iff]
  simp [s48_B, s46_BP, and_assoc]
theorem s48_geql (x y : Operand) (a0 b0 : Int) (a1 b1 : Int) (a2 b2 : Int) (a3 b3 : List UInt8) (a4 b4 : Bool) (a5 b5 : Int) : pureRun Tryz.prog (eqGuard .eql 48 x y (.agg #[.int .i64 a0, .int .i64 a1, .int .i64 a2, .string ⟨⟨a3⟩⟩, .bool a4, .int .i64 a5]) (.agg #[.int .i64 b0, .int .i64 b1, .int .i64 b2, .string ⟨⟨b3⟩⟩, .bool b4, .int .i64 b5])) = some () := by kernel_rfl
theorem s48_beql (a0 b0 : Int) (a1 b1 : Int) (a2 b2 : Int) (a3 b3 : List UInt8) (a4 b4 : Bool) (a5 b5 : Int) : binOp .eql 48 (.agg #[.int .i64 a0, .int .i64 a1, .int .i64 a2, .string ⟨⟨a3⟩⟩, .bool a4, .int .i64 a5]) (.agg #[.int .i64 b0, .int .i64 b1, .int .i64 b2, .string ⟨⟨b3⟩⟩, .bool b4, .int .i64 b5]) = (Op.equal 48 (.agg #[.int .i64 a0, .int .i64 a1, .int .i64 a2, .string ⟨⟨a3⟩⟩, .bool a4, .int .i64 a5]) (.agg #[.int .i64 b0, .int .i64 b1, .int .i64 b2, .string ⟨⟨b3⟩⟩, .bool b4, .int .i64 b5]) >>= fun r => pure (.bool r)) := by kernel_rfl
theorem s48_qeql (x y : Operand) (a0 b0 : Int) (a1 b1 : Int) (a2 b2 : Int) (a3 b3 : List UInt8) (a4 b4 : Bool) (a5 b5 : Int) : binQ Tryz.prog .eql 48 x y (.agg [.lit (.int .i64 a0), .lit (.int .i64 a1), .lit (.int .i64 a2), .lit (.string ⟨⟨a3⟩⟩), .lit (.bool a4), .lit (.int .i64 a5)]) (.agg [.lit (.int .i64 b0), .lit (.int .i64 b1), .lit (.int .i64 b2), .lit (.string ⟨⟨b3⟩⟩), .lit (.bool b4), .lit (.int .i64 b5)]) = (pureRun Tryz.prog (eqGuard .eql 48 x y (.agg #[.int .i64 a0, .int .i64 a1, .int .i64 a2, .string ⟨⟨a3⟩⟩, .bool a4, .int .i64 a5]) (.agg #[.int .i64 b0, .int .i64 b1, .int .i64 b2, .string ⟨⟨b3⟩⟩, .bool b4, .int .i64 b5]) >>= fun _ => binOp .eql 48 (.agg #[.int .i64 a0, .int .i64 a1, .int .i64 a2, .string ⟨⟨a3⟩⟩, .bool a4, .int .i64 a5]) (.agg #[.int .i64 b0, .int .i64 b1, .int .i64 b2, .string ⟨⟨b3⟩⟩, .bool b4, .int .i64 b5]))).map .lit := by kernel_rfl
set_option maxRecDepth 100000 in
theorem s48_eql {x y : Operand} {a0 b0 : Int} {a1 b1 : Int} {a2 b2 : Int} {a3 b3 : List UInt8} {a4 b4 : Bool} {a5 b5 : Int} : binQ Tryz.prog .eql 48 x y (.agg [.lit (.int .i64 a0), .lit (.int .i64 a1), .lit (.int .i64 a2), .lit (.string ⟨⟨a3⟩⟩), .lit (.bool a4), .lit (.int .i64 a5)]) (.agg [.lit (.int .i64 b0), .lit (.int .i64 b1), .lit (.int .i64 b2), .lit (.string ⟨⟨b3⟩⟩), .lit (.bool b4), .lit (.int .i64 b5)]) = some (.lit (.bool (decide (a0 = b0 ∧ a1 = b1 ∧ a2 = b2 ∧ a3 = b3 ∧ a4 = b4 ∧ a5 = b5)))) := by
  rw [s48_qeql, pureRun_bind, s48_geql, Option.bind_some, s48_beql, pureRun_bind]
  have := s48_all 9997 a0 b0 a1 b1 a2 b2 a3 b3 a4 b4 a5 b5
  rw [show Op.equal 48 (.agg #[.int .i64 a0, .int .i64 a1, .int .i64 a2, .string ⟨⟨a3⟩⟩, .bool a4, .int .i64 a5]) (.agg #[.int .i64 b0, .int .i64 b1, .int .i64 b2, .string ⟨⟨b3⟩⟩, .bool b4, .int .i64 b5]) = Op.equalIn (9997 + 3) 48 (.agg #[.int .i64 a0, .int .i64 a1, .int .i64 a2, .string ⟨⟨a3⟩⟩, .bool a4, .int .i64 a5]) (.agg #[.int .i64 b0, .int .i64 b1, .int .i64 b2, .string ⟨⟨b3⟩⟩, .bool b4, .int .i64 b5]) from rfl, this, ← s48_BP]
  rfl
theorem s48_eqlT {x y : Operand} {a0 b0 : Int} {a1 b1 : Int} {a2 b2 : Int} {a3 b3 : List UInt8} {a4 b4 : Bool} {a5 b5 : Int} (h : a0 = b0 ∧ a1 = b1 ∧ a2 = b2 ∧ a3 = b3 ∧ a4 = b4 ∧ a5 = b5) : binQ Tryz.prog .eql 48 x y (.agg [.lit (.int .i64 a0), .lit (.int .i64 a1), .lit (.int .i64 a2), .lit (.string ⟨⟨a3⟩⟩), .lit (.bool a4), .lit (.int .i64 a5)]) (.agg [.lit (.int .i64 b0), .lit (.int .i64 b1), .lit (.int .i64 b2), .lit (.string ⟨⟨b3⟩⟩), .lit (.bool b4), .lit (.int .i64 b5)]) = some (.lit (.bool true)) := s48_eql.trans (by rw [decide_eq_true h])
theorem s48_eqlF {x y : Operand} {a0 b0 : Int} {a1 b1 : Int} {a2 b2 : Int} {a3 b3 : List UInt8} {a4 b4 : Bool} {a5 b5 : Int} (h : ¬ (a0 = b0 ∧ a1 = b1 ∧ a2 = b2 ∧ a3 = b3 ∧ a4 = b4 ∧ a5 = b5)) : binQ Tryz.prog .eql 48 x y (.agg [.lit (.int .i64 a0), .lit (.int .i64 a1), .lit (.int .i64 a2), .lit (.string ⟨⟨a3⟩⟩), .lit (.bool a4), .lit (.int .i64 a5)]) (.agg [.lit (.int .i64 b0), .lit (.int .i64 b1), .lit (.int .i64 b2), .lit (.string ⟨⟨b3⟩⟩), .lit (.bool b4), .lit (.int .i64 b5)]) = some (.lit (.bool false)) := s48_eql.trans (by rw [decide_eq_false h])
theorem s48_gneq (x y : Operand) (a0 b0 : Int) (a1 b1 : Int) (a2 b2 : Int) (a3 b3 : List UInt8) (a4 b4 : Bool) (a5 b5 : Int) : pureRun Tryz.prog (eqGuard .neq 48 x y (.agg #[.int .i64 a0, .int .i64 a1, .int .i64 a2, .string ⟨⟨a3⟩⟩, .bool a4, .int .i64 a5]) (.agg #[.int .i64 b0, .int .i64 b1, .int .i64 b2, .string ⟨⟨b3⟩⟩, .bool b4, .int .i64 b5])) = some () := by kernel_rfl
theorem s48_bneq (a0 b0 : Int) (a1 b1 : Int) (a2 b2 : Int) (a3 b3 : List UInt8) (a4 b4 : Bool) (a5 b5 : Int) : binOp .neq 48 (.agg #[.int .i64 a0, .int .i64 a1, .int .i64 a2, .string ⟨⟨a3⟩⟩, .bool a4, .int .i64 a5]) (.agg #[.int .i64 b0, .int .i64 b1, .int .i64 b2, .string ⟨⟨b3⟩⟩, .bool b4, .int .i64 b5]) = (Op.equal 48 (.agg #[.int .i64 a0, .int .i64 a1, .int .i64 a2, .string ⟨⟨a3⟩⟩, .bool a4, .int .i64 a5]) (.agg #[.int .i64 b0, .int .i64 b1, .int .i64 b2, .string ⟨⟨b3⟩⟩, .bool b4, .int .i64 b5]) >>= fun r => pure (.bool (!r))) := by kernel_rfl
theorem s48_qneq (x y : Operand) (a0 b0 : Int) (a1 b1 : Int) (a2 b2 : Int) (a3 b3 : List UInt8) (a4 b4 : Bool) (a5 b5 : Int) : binQ Tryz.prog .neq 48 x y (.agg [.lit (.int .i64 a0), .lit (.int .i64 a1), .lit (.int .i64 a2), .lit (.string ⟨⟨a3⟩⟩), .lit (.bool a4), .lit (.int .i64 a5)]) (.agg [.lit (.int .i64 b0), .lit (.int .i64 b1), .lit (.int .i64 b2), .lit (.string ⟨⟨b3⟩⟩), .lit (.bool b4), .lit (.int .i64 b5)]) = (pureRun Tryz.prog (eqGuard .neq 48 x y (.agg #[.int .i64 a0, .int .i64 a1, .int .i64 a2, .string ⟨⟨a3⟩⟩, .bool a4, .int .i64 a5]) (.agg #[.int .i64 b0, .int .i64 b1, .int .i64 b2, .string ⟨⟨b3⟩⟩, .bool b4, .int .i64 b5]) >>= fun _ => binOp .neq 48 (.agg #[.int .i64 a0, .int .i64 a1, .int .i64 a2, .string ⟨⟨a3⟩⟩, .bool a4, .int .i64 a5]) (.agg #[.int .i64 b0, .int .i64 b1, .int .i64 b2, .string ⟨⟨b3⟩⟩, .bool b4, .int .i64 b5]))).map .lit := by kernel_rfl
set_option maxRecDepth 100000 in
theorem s48_neq {x y : Operand} {a0 b0 : Int} {a1 b1 : Int} {a2 b2 : Int} {a3 b3 : List UInt8} {a4 b4 : Bool} {a5 b5 : Int} : binQ Tryz.prog .neq 48 x y (.agg [.lit (.int .i64 a0), .lit (.int .i64 a1), .lit (.int .i64 a2), .lit (.string ⟨⟨a3⟩⟩), .lit (.bool a4), .lit (.int .i64 a5)]) (.agg [.lit (.int .i64 b0), .lit (.int .i64 b1), .lit (.int .i64 b2), .lit (.string ⟨⟨b3⟩⟩), .lit (.bool b4), .lit (.int .i64 b5)]) = some (.lit (.bool (!decide (a0 = b0 ∧ a1 = b1 ∧ a2 = b2 ∧ a3 = b3 ∧ a4 = b4 ∧ a5 = b5)))) := by
  rw [s48_qneq, pureRun_bind, s48_gneq, Option.bind_some, s48_bneq, pureRun_bind]
  have := s48_all 9997 a0 b0 a1 b1 a2 b2 a3 b3 a4 b4 a5 b5
  rw [show Op.equal 48 (.agg #[.int .i64 a0, .int .i64 a1, .int .i64 a2, .string ⟨⟨a3⟩⟩, .bool a4, .int .i64 a5]) (.agg #[.int .i64 b0, .int .i64 b1, .int .i64 b2, .string ⟨⟨b3⟩⟩, .bool b4, .int .i64 b5]) = Op.equalIn (9997 + 3) 48 (.agg #[.int .i64 a0, .int .i64 a1, .int .i64 a2, .string ⟨⟨a3⟩⟩, .bool a4, .int .i64 a5]) (.agg #[.int .i64 b0, .int .i64 b1, .int .i64 b2, .string ⟨⟨b3⟩⟩, .bool b4, .int .i64 b5]) from rfl, this, ← s48_BP]
  rfl
theorem s48_neqT {x y : Operand} {a0 b0 : Int} {a1 b1 : Int} {a2 b2 : Int} {a3 b3 : List UInt8} {a4 b4 : Bool} {a5 b5 : Int} (h : a0 = b0 ∧ a1 = b1 ∧ a2 = b2 ∧ a3 = b3 ∧ a4 = b4 ∧ a5 = b5) : binQ Tryz.prog .neq 48 x y (.agg [.lit (.int .i64 a0), .lit (.int .i64 a1), .lit (.int .i64 a2), .lit (.string ⟨⟨a3⟩⟩), .lit (.bool a4), .lit (.int .i64 a5)]) (.agg [.lit (.int .i64 b0), .lit (.int .i64 b1), .lit (.int .i64 b2), .lit (.string ⟨⟨b3⟩⟩), .lit (.bool b4), .lit (.int .i64 b5)]) = some (.lit (.bool false)) := s48_neq.trans (by rw [decide_eq_true h]; rfl)
theorem s48_neqF {x y : Operand} {a0 b0 : Int} {a1 b1 : Int} {a2 b2 : Int} {a3 b3 : List UInt8} {a4 b4 : Bool} {a5 b5 : Int} (h : ¬ (a0 = b0 ∧ a1 = b1 ∧ a2 = b2 ∧ a3 = b3 ∧ a4 = b4 ∧ a5 = b5)) : binQ Tryz.prog .neq 48 x y (.agg [.lit (.int .i64 a0), .lit (.int .i64 a1), .lit (.int .i64 a2), .lit (.string ⟨⟨a3⟩⟩), .lit (.bool a4), .lit (.int .i64 a5)]) (.agg [.lit (.int .i64 b0), .lit (.int .i64 b1), .lit (.int .i64 b2), .lit (.string ⟨⟨b3⟩⟩), .lit (.bool b4), .lit (.int .i64 b5)]) = some (.lit (.bool true)) := s48_neq.trans (by rw [decide_eq_false h]; rfl)
end Go.Proofs.YtcpigoljjbhkkaaGreatDoor.ft
namespace Go.Proofs.YtcpigoljjbhkkaaGreatDoor.ft
open Go Go.RowKit Go.Proofs.YtcpigoljjbhkkaaGreatDoor.Ev

def sL : Code → Code
  | .seq a _ => a
  | c => c
def sR : Code → Code
  | .seq _ b => b
  | c => c
def inB : Code → Code
  | .block _ c => c
  | c => c
def inL : Code → Code
  | .loop c => c
  | c => c
def bodyO (f : Func) : Code := match f.body with
  | some c => c
  | none => .skip
def noMem : Oracle := fun _ _ _ => none
section
variable {P : Program} {Γ : Glob} {mem : Oracle} {Φ : Out → Prop} {next : Fr → Hp → Prop}
theorem thenN {fr : Fr} {hp : Hp} {v : SV} (h : next fr hp) : O.Then next Φ ⟨.normal, fr, hp, v⟩ := h
end

section
variable {h : Hp}
set_option maxRecDepth 20000 in
theorem isDigit_runs {z : Int} : O.Runs Tryz.prog .leaf noMem (.call 224 [.lit (.int .u8 z)] h) fun o => o.v = .lit (.bool (decide (48 ≤ z ∧ z ≤ 57))) ∧ o.hp = h := by
  refine O.runs_call Tryz.func224 rfl ?_ rfl
  refine O.runs_seq (O.runs_region ?_)
  refine O.ops_q (v := .lit (.bool false)) (fs := []) rfl rfl rfl rfl ?_
  refine O.ops_nil (thenN ?_)
  refine O.runs_seq (O.runs_region ?_)
  refine O.ops_q (v := .lit (.int .u8 z)) (fs := []) rfl rfl rfl rfl ?_
  by_cases h1 : 48 ≤ z
  · refine O.ops_q (v := .lit (.bool true)) (fs := []) rfl (congrArg one (c5_geqT h1)) rfl rfl ?_
    refine O.ops_q (v := .lit (.bool true)) (fs := []) rfl rfl rfl rfl ?_
    refine O.ops_q (v := .lit (.int .u8 z)) (fs := []) rfl rfl rfl rfl ?_
    by_cases h2 : z ≤ 57
    · refine O.ops_q (v := .lit (.bool true)) (fs := []) rfl (congrArg one (c5_leqT h2)) rfl rfl ?_
      refine O.ops_q (v := .lit (.bool true)) (fs := []) rfl rfl rfl rfl ?_
      refine O.ops_q (v := .lit (.bool true)) (fs := []) rfl rfl rfl rfl ?_
      exact O.ops_nil (thenN (O.runs_ret ⟨_, rfl, congrArg (fun b => SV.lit (.bool b)) (decide_eq_true (show 48 ≤ z ∧ z ≤ 57 from ⟨h1, h2⟩)).symm, rfl⟩))
    · refine O.ops_q (v := .lit (.bool false)) (fs := []) rfl (congrArg one (c5_leqF h2)) rfl rfl ?_
      refine O.ops_q (v := .lit (.bool false)) (fs := []) rfl rfl rfl rfl ?_
      refine O.ops_q (v := .lit (.bool false)) (fs := []) rfl rfl rfl rfl ?_
      exact O.ops_nil (thenN (O.runs_ret ⟨_, rfl, congrArg (fun b => SV.lit (.bool b)) (decide_eq_false (show ¬ (48 ≤ z ∧ z ≤ 57) from fun h => h2 h.2)).symm, rfl⟩))
  · refine O.ops_q (v := .lit (.bool false)) (fs := []) rfl (congrArg one (c5_geqF h1)) rfl rfl ?_
    refine O.ops_q (v := .lit (.bool false)) (fs := []) rfl rfl rfl rfl ?_
    refine O.ops_u rfl rfl rfl ?_
    refine O.ops_u rfl rfl rfl ?_
    refine O.ops_q (v := .lit (.bool false)) (fs := []) rfl rfl rfl rfl ?_
    refine O.ops_q (v := .lit (.bool false)) (fs := []) rfl rfl rfl rfl ?_
    exact O.ops_nil (thenN (O.runs_ret ⟨_, rfl, congrArg (fun b => SV.lit (.bool b)) (decide_eq_false (show ¬ (48 ≤ z ∧ z ≤ 57) from fun h => h1 h.1)).symm, rfl⟩))

noncomputable def dBody : Code := bodyO Tryz.f247
noncomputable def dLoop : Code := inB (sL (sR (sR dBody)))
/-- Is there a digit at that place? -/
abbrev digAt (s : List UInt8) (i : Nat) : Prop := 48 ≤ bAt s i ∧ bAt s i ≤ 57
theorem isDig_iff (b : UInt8) : isDig b = true ↔ (48 ≤ ((b.toNat : Nat) : Int) ∧ ((b.toNat : Nat) : Int) ≤ 57) := by
  simp only [isDig, Bool.and_eq_true, Nat.ble_eq]
  omega
set_option maxHeartbeats 4000000 in
set_option maxRecDepth 20000 in
theorem dLoop_runs {s : List UInt8} {k : Nat} (hk : k ≤ s.length) (hd : ∀ i, i < k → digAt s i) (he : k < s.length → ¬ digAt s k) (hs : s.length ≤ 1000000) : ∀ (m i : Nat), k - i = m → i ≤ k → ∀ (tm : T SV), Fr.ev ⟨tm, 17, []⟩ (.tmp 0) = .lit (.string ⟨⟨s⟩⟩) → Fr.ev ⟨tm, 17, []⟩ (.tmp 3) = .lit (.int .i64 i) →
    O.Runs Tryz.prog .leaf noMem (.code dLoop none ⟨tm, 17, []⟩ h) fun o => o.exit = .exit 0 ∧ o.hp = h ∧ ∃ t, o.fr = ⟨t, 17, []⟩ ∧ Fr.ev ⟨t, 17, []⟩ (.tmp 3) = .lit (.int .i64 k) := by
  intro m
  induction m with
  | zero =>
    intro i hm hi tm e0 e3
    obtain rfl : i = k := by omega
    refine O.runs_loop (O.runs_seq (O.runs_seq (O.runs_region ?_)))
    refine O.ops_q (v := .lit (.int .i64 i)) (fs := []) rfl (by simp only [quiet, e3]) rfl rfl ?_
    refine O.ops_q (v := .lit (.string ⟨⟨s⟩⟩)) (fs := []) rfl (by simp only [quiet, ev_set]; exact congrArg (fun v => some (v, [])) e0) rfl rfl ?_
    refine O.ops_q (v := .lit (.int .i64 s.length)) (fs := []) rfl (by simp only [quiet]; rfl) rfl rfl ?_
    by_cases hlt : i < s.length
    · have hn := he hlt
      refine O.ops_q (v := .lit (.bool true)) (fs := []) rfl (by simp only [quiet, ev_set]; exact congrArg one (c3_lssT (by omega))) rfl rfl ?_
      refine O.ops_q (v := .lit (.bool true)) (fs := []) rfl (by simp only [quiet, ev_set]; rfl) rfl rfl ?_
      refine O.ops_q (v := .lit (.string ⟨⟨s⟩⟩)) (fs := []) rfl (by simp only [quiet, ev_set]; exact congrArg (fun v => some (v, [])) e0) rfl rfl ?_
      refine O.ops_q (v := .lit (.int .i64 i)) (fs := []) rfl (by simp only [quiet, ev_set]; exact congrArg (fun v => some (v, [])) e3) rfl rfl ?_
      refine O.ops_q (v := .lit (.int .u8 (bAt s i))) (fs := []) rfl (by simp only [quiet, ev_set]; exact congrArg one (txt_at (by omega) (by omega))) rfl rfl ?_
      refine O.ops_c (f := 224) (args := [.lit (.int .u8 (bAt s i))]) rfl rfl rfl (clone_none Tryz.func224 rfl) rfl rfl ?_
      refine isDigit_runs.mono ?_
      rintro ⟨ex1, fr1, h1, v1⟩ ⟨hv1, hh1⟩
      have hh1 : h1 = h := hh1
      have hv1 : v1 = .lit (.bool false) := hv1.trans (by rw [decide_eq_false hn])
      subst hh1 hv1
      refine O.ops_q (v := .lit (.bool false)) (fs := []) rfl (by simp only [quiet, ev_set]; rfl) rfl rfl ?_
      refine O.ops_nil (thenN ?_)
      refine O.runs_cond false (by simp [ev_set]) (O.runs_exit ?_)
      exact ⟨rfl, rfl, _, rfl, by simp only [ev_set]; exact e3⟩
    · refine O.ops_q (v := .lit (.bool false)) (fs := []) rfl (by simp only [quiet, ev_set]; exact congrArg one (c3_lssF (by omega))) rfl rfl ?_
      refine O.ops_q (v := .lit (.bool false)) (fs := []) rfl (by simp only [quiet, ev_set]; rfl) rfl rfl ?_
      refine O.ops_u rfl rfl rfl ?_
      refine O.ops_u rfl rfl rfl ?_
      refine O.ops_u rfl rfl rfl ?_
      refine O.ops_u rfl rfl rfl ?_
      refine O.ops_q (v := .lit (.bool false)) (fs := []) rfl (by simp only [quiet, ev_set]; rfl) rfl rfl ?_
      refine O.ops_nil (thenN ?_)
      refine O.runs_cond false (by simp [ev_set]) (O.runs_exit ?_)
      exact ⟨rfl, rfl, _, rfl, by simp only [ev_set]; exact e3⟩
  | succ m ih =>
    intro i hm hi tm e0 e3
    have hn := hd i (by omega)
    refine O.runs_loop (O.runs_seq (O.runs_seq (O.runs_region ?_)))
    refine O.ops_q (v := .lit (.int .i64 i)) (fs := []) rfl (by simp only [quiet, e3]) rfl rfl ?_
    refine O.ops_q (v := .lit (.string ⟨⟨s⟩⟩)) (fs := []) rfl (by simp only [quiet, ev_set]; exact congrArg (fun v => some (v, [])) e0) rfl rfl ?_
    refine O.ops_q (v := .lit (.int .i64 s.length)) (fs := []) rfl (by simp only [quiet]; rfl) rfl rfl ?_
    refine O.ops_q (v := .lit (.bool true)) (fs := []) rfl (by simp only [quiet, ev_set]; exact congrArg one (c3_lssT (by omega))) rfl rfl ?_
    refine O.ops_q (v := .lit (.bool true)) (fs := []) rfl (by simp only [quiet, ev_set]; rfl) rfl rfl ?_
    refine O.ops_q (v := .lit (.string ⟨⟨s⟩⟩)) (fs := []) rfl (by simp only [quiet, ev_set]; exact congrArg (fun v => some (v, [])) e0) rfl rfl ?_
    refine O.ops_q (v := .lit (.int .i64 i)) (fs := []) rfl (by simp only [quiet, ev_set]; exact congrArg (fun v => some (v, [])) e3) rfl rfl ?_
    refine O.ops_q (v := .lit (.int .u8 (bAt s i))) (fs := []) rfl (by simp only [quiet, ev_set]; exact congrArg one (txt_at (by omega) (by omega))) rfl rfl ?_
    refine O.ops_c (f := 224) (args := [.lit (.int .u8 (bAt s i))]) rfl rfl rfl (clone_none Tryz.func224 rfl) rfl rfl ?_
    refine isDigit_runs.mono ?_
    rintro ⟨ex1, fr1, h1, v1⟩ ⟨hv1, hh1⟩
    have hh1 : h1 = h := hh1
    have hv1 : v1 = .lit (.bool true) := hv1.trans (by rw [decide_eq_true hn])
    subst hh1 hv1
    refine O.ops_q (v := .lit (.bool true)) (fs := []) rfl (by simp only [quiet, ev_set]; rfl) rfl rfl ?_
    refine O.ops_nil (thenN ?_)
    refine O.runs_cond true (by simp [ev_set]) (O.runs_skip (thenN ?_))
    refine O.runs_block (O.runs_region ?_)
    refine O.ops_q (v := .lit (.int .i64 i)) (fs := []) rfl (by simp only [quiet, ev_set]; exact congrArg (fun v => some (v, [])) e3) rfl rfl ?_
    refine O.ops_q (v := .lit (.int .i64 ((i + 1 : Nat) : Int))) (fs := []) rfl (by simp only [quiet, ev_set]; exact congrArg one (a3_add (by omega) (by omega) (by omega))) rfl rfl ?_
    refine O.ops_q (v := .lit (.int .i64 ((i + 1 : Nat) : Int))) (fs := []) rfl (by simp only [quiet, ev_set]; rfl) rfl rfl ?_
    refine O.ops_nil (thenN ?_)
    exact ih (i + 1) (by omega) (by omega) _ (by simp only [ev_set]; exact e0) (by simp only [ev_set]; rfl)

set_option maxRecDepth 20000 in
theorem digitsOf_runs {s : List UInt8} {k : Nat} (hk : k ≤ s.length) (hd : ∀ i, i < k → digAt s i) (he : k < s.length → ¬ digAt s k) (hs : s.length ≤ 1000000) :
    O.Runs Tryz.prog .leaf noMem (.call 247 [.lit (.string ⟨⟨s⟩⟩)] h) fun o => o.v = .lit (.int .i64 k) ∧ o.hp = h := by
  refine O.runs_call Tryz.func247 rfl ?_ rfl
  refine O.runs_seq (O.runs_region ?_)
  refine O.ops_q (v := .lit (.int .i64 0)) (fs := []) rfl rfl rfl rfl ?_
  refine O.ops_nil (thenN ?_)
  refine O.runs_seq (O.runs_region ?_)
  refine O.ops_q (v := .lit (.int .i64 0)) (fs := []) rfl rfl rfl rfl ?_
  refine O.ops_nil (thenN ?_)
  refine O.runs_seq (O.runs_block ?_)
  refine (dLoop_runs hk hd he hs k 0 (by omega) (by omega) _ rfl rfl).mono ?_
  rintro ⟨ex, fr, h1, v⟩ ⟨hex, hh, t, hfr, ht⟩
  have hex : ex = .exit 0 := hex
  have hh : h1 = h := hh
  have hfr : fr = ⟨t, 17, []⟩ := hfr
  subst hex hh hfr
  show O.Then _ _ ⟨.normal, ⟨t, 17, []⟩, h1, v⟩
  refine thenN ?_
  refine O.runs_seq (O.runs_region ?_)
  refine O.ops_q (v := .lit (.int .i64 k)) (fs := []) rfl (by simp only [quiet, ht]) rfl rfl ?_
  refine O.ops_q (v := .lit (.int .i64 k)) (fs := []) rfl (by simp only [quiet, ev_set]; rfl) rfl rfl ?_
  refine O.ops_nil (thenN (O.runs_ret ?_))
  exact ⟨_, rfl, by first | rfl | (simp [ev_set]; done), rfl⟩
end
end Go.Proofs.YtcpigoljjbhkkaaGreatDoor.ft
