/-
  SYMBOLIC RUNS (0): numbers of a kind, texts as lists of bytes, windows, of any program; by the author of this claim. | SYMBOLIC RUNS (1): expressions and values that hold variables, and what they stand for; by the author of this claim. Of any program. | SYMBOLIC RUNS (2): a memory in parts that keep off one another, and a part that nobody turns any more; by the author of this claim. Of any program. | WHAT IS HIDDEN from a call: a block that was made ahead; by the author of this claim. | SYMBOLIC RUNS (3): what an operation that leaves the memory as it is yields, on values that hold variables; by the author of this claim. Of any program. | SYMBOLIC RUNS (4): two numbers, two texts, two truths; all operations that leave the memory as it is; by the author of this claim. Of any program. | SYMBOLIC RUNS (4b): structs held against each other; by the author of this claim. Of any program.
-/
import Derived.Test.YtdhmljjpiainnaaGreatDoorEvGH
namespace Go.Proofs.YtdhmljjpiainnaaGreatDoor.Sx
open Go Go.Proofs.YtdhmljjpiainnaaGreatDoor.Ev
def bodyOf (f : Func) : Code := match f.body with
  | some c => c
  | none => .skip
theorem _root_.Go.Proofs.YtdhmljjpiainnaaGreatDoor.Ev.Kept.then {a b c : Hp} (h : Kept a.next a b) (h' : Kept b.next b c) : Kept a.next a c := h.trans (h'.less h.next)
theorem dec_eq {a b : Int} : (a == b) = decide (a = b) := by by_cases h : a = b <;> simp [h]
def lo : IntKind → Int
  | .i8 => -128 | .i16 => -32768 | .i32 => -2147483648 | .i64 => -9223372036854775808 | _ => 0
def hi : IntKind → Int
  | .i8 => 128 | .i16 => 32768 | .i32 => 2147483648 | .i64 => 9223372036854775808 | .u8 => 256 | .u16 => 65536 | .u32 => 4294967296 | .u64 => 18446744073709551616
theorem wrap_signed {z m : Int} (h1 : -m ≤ z) (h2 : z < m) : (if (true && decide (z % (2 * m) ≥ m)) = true then z % (2 * m) - 2 * m else z % (2 * m)) = z := by
  by_cases hz : 0 ≤ z
  · rw [Int.emod_eq_of_lt hz (by omega)]
    simp [show ¬ (z ≥ m) by omega]
  · have e : z % (2 * m) = z + 2 * m := by
      rw [← Int.add_emod_right, Int.emod_eq_of_lt (by omega) (by omega)]
    rw [e]
    simp [show z + 2 * m ≥ m by omega]
theorem wrap_in (k : IntKind) {z : Int} (h1 : lo k ≤ z) (h2 : z < hi k) : k.wrap z = z := by
  cases k
  case i8 => exact wrap_signed (m := 128) h1 h2
  case i16 => exact wrap_signed (m := 32768) h1 h2
  case i32 => exact wrap_signed (m := 2147483648) h1 h2
  case i64 => exact wrap_signed (m := 9223372036854775808) h1 h2
  case u8 => exact Int.emod_eq_of_lt h1 h2
  case u16 => exact Int.emod_eq_of_lt h1 h2
  case u32 => exact Int.emod_eq_of_lt h1 h2
  case u64 => exact Int.emod_eq_of_lt h1 h2
theorem ba_toList (l : List UInt8) : (⟨⟨l⟩⟩ : ByteArray).toList = l := by
  have h : ∀ (k : Nat) (i : Nat) (r : List UInt8), l.length - i = k → ByteArray.toList.loop ⟨⟨l⟩⟩ i r = r.reverse ++ l.drop i := by
    intro k
    induction k with
    | zero =>
      intro i r hk
      rw [ByteArray.toList.loop, if_neg (by show ¬ i < l.length; omega), List.drop_eq_nil_of_le (by omega), List.append_nil]
    | succ k ih =>
      intro i r hk
      rw [ByteArray.toList.loop, if_pos (by show i < l.length; omega), ih (i + 1) _ (by omega)]
      have hi : i < l.length := by omega
      have e : (⟨⟨l⟩⟩ : ByteArray).get! i = l[i] := by
        show (Array.mk l)[i]! = l[i]
        simp [hi]
      rw [e, List.reverse_cons, List.append_assoc, List.drop_eq_getElem_cons hi]
      rfl
  have := h l.length 0 [] (by omega)
  simpa [ByteArray.toList] using this
def bAt (l : List UInt8) (i : Int) : Int := ((l[i.toNat]?).getD 0).toNat
def tFrom (l : List UInt8) (i : Int) : List UInt8 := l.drop i.toNat
def tTo (l : List UInt8) (i : Int) : List UInt8 := l.take i.toNat
def tSub (l : List UInt8) (i j : Int) : List UInt8 := (l.drop i.toNat).take (j.toNat - i.toNat)
theorem ba_get {l : List UInt8} {i : Nat} : (⟨⟨l⟩⟩ : ByteArray)[i]? = l[i]? := by
  show (if h : i < l.length then some ((⟨⟨l⟩⟩ : ByteArray).get i h) else none) = _
  by_cases h : i < l.length
  · rw [dif_pos h, List.getElem?_eq_getElem h]; rfl
  · rw [dif_neg h, List.getElem?_eq_none (by omega)]
theorem ba_extract (l : List UInt8) (i j : Nat) : (⟨⟨l⟩⟩ : ByteArray).extract i j = ⟨⟨(l.drop i).take (j - i)⟩⟩ := by
  apply ByteArray.ext
  rw [ByteArray.data_extract]
  apply Array.ext'
  rw [Array.toList_extract]
theorem bound_in {i : Int} {n : Nat} {c : BoundsCode} (h0 : 0 ≤ i) (h1 : i ≤ n) : Instr.sliceBound (.int .i64 i) n c = pure i.toNat := by
  show (if 0 ≤ i ∧ i ≤ n then pure i.toNat else boundsPanic .i64 i n c) = _
  rw [if_pos ⟨h0, h1⟩]
theorem run_bind {α β : Type} (P : Program) (s : Sem α) (f : α → Sem β) : pureRun P (s >>= f) = (pureRun P s).bind fun a => pureRun P (f a) := by
  show pureRun P (s.bind f) = _
  induction s with
  | pure a => rfl
  | program k ih => exact ih P
  | mark m k ih => exact ih
  | _ => rfl
theorem bounds_both {P : Program} {n : Nat} {i j : Int} (h0 : 0 ≤ i) (h1 : i ≤ j) (h2 : j ≤ n) : pureRun P (Instr.sliceBounds false n n (some (.int .i64 i)) (some (.int .i64 j)) none) = some (i.toNat, j.toNat, n) := by
  show pureRun P (Instr.sliceBound (.int .i64 j) n .sliceAlen >>= fun h => Instr.sliceBound (.int .i64 i) h .sliceB >>= fun l => pure (l, h, n)) = _
  rw [bound_in (by omega) h2]
  show pureRun P (Instr.sliceBound (.int .i64 i) j.toNat .sliceB >>= fun l => pure (l, j.toNat, n)) = _
  rw [bound_in h0 (by omega)]
  rfl
theorem bounds_lo {P : Program} {n : Nat} {i : Int} (h0 : 0 ≤ i) (h1 : i ≤ n) : pureRun P (Instr.sliceBounds false n n (some (.int .i64 i)) none none) = some (i.toNat, n, n) := by
  show pureRun P (Instr.sliceBound (.int .i64 i) n .sliceB >>= fun l => pure (l, n, n)) = _
  rw [bound_in h0 h1]
  rfl
theorem bounds_hi {P : Program} {n : Nat} {j : Int} (h0 : 0 ≤ j) (h1 : j ≤ n) : pureRun P (Instr.sliceBounds false n n none (some (.int .i64 j)) none) = some (0, j.toNat, n) := by
  show pureRun P (Instr.sliceBound (.int .i64 j) n .sliceAlen >>= fun h => pure (0, h, n)) = _
  rw [bound_in h0 h1]
  rfl
theorem run_und {α : Type} {P : Program} {t : TypeId} {d : TypeDesc} (h : P.underlying t = some d) (f : TypeDesc → Sem α) : pureRun P (underlying t >>= f) = pureRun P (f d) := by
  rw [run_bind]
  have : pureRun P (underlying t) = some d := by
    show pureRun P (match P.underlying t with
      | some d => (pure d : Sem TypeDesc)
      | none => stuck "no such type") = _
    rw [h]
    rfl
  rw [this]
  rfl
section
variable {P : Program} {t : TypeId}
theorem txt_at {l : List UInt8} {i : Int} (ht : tyU P t = some .string) (k : IntKind) (h0 : 0 ≤ i) (h1 : i < l.length) : indexQ P t (.lit (.string ⟨⟨l⟩⟩)) (.lit (.int k i)) = some (.lit (.int .u8 (bAt l i))) := by
  have hi : i.toNat < l.length := by omega
  have e : pureRun P (Instr.index t (.string ⟨⟨l⟩⟩) (.int k i)) = some (.int .u8 (bAt l i)) := by
    show pureRun P (underlying t >>= fun d => _) = _
    rw [run_und ht]
    show pureRun P (match (if 0 ≤ i then (⟨⟨l⟩⟩ : ByteArray)[i.toNat]? else none) with
      | some b => pure (Value.int .u8 b.toNat)
      | none => boundsPanic k i (⟨⟨l⟩⟩ : ByteArray).size .index) = _
    rw [if_pos h0, ba_get, List.getElem?_eq_getElem hi]
    simp only [bAt, List.getElem?_eq_getElem hi, Option.getD_some]
    rfl
  simp only [indexQ, ht, SV.toLit, e, Option.map_some]
theorem txt_slc {l r : List UInt8} {lo hi : Option Value} {a b c : Nat} (ht : tyU P t = some .string) (hb : pureRun P (Instr.sliceBounds false l.length l.length lo hi none) = some (a, b, c)) (hr : (l.drop a).take (b - a) = r) : pureRun P (Instr.sliceAt t (.string ⟨⟨l⟩⟩) lo hi none) = some (.string ⟨⟨r⟩⟩) := by
  show pureRun P (underlying t >>= fun d => _) = _
  rw [run_und ht]
  show pureRun P (underlying t >>= fun d => _) = _
  rw [run_und ht]
  show pureRun P (Instr.sliceBounds false l.length l.length lo hi none >>= fun x => pure (Value.string ((⟨⟨l⟩⟩ : ByteArray).extract x.1 x.2.1))) = _
  rw [run_bind, hb]
  show some (Value.string ((⟨⟨l⟩⟩ : ByteArray).extract a b)) = _
  rw [ba_extract, hr]
theorem txt_sub {l : List UInt8} {i j : Int} (ht : tyU P t = some .string) (h0 : 0 ≤ i) (h1 : i ≤ j) (h2 : j ≤ l.length) : sliceQ P t (.lit (.string ⟨⟨l⟩⟩)) (some (.lit (.int .i64 i))) (some (.lit (.int .i64 j))) none = some (.lit (.string ⟨⟨tSub l i j⟩⟩)) := by
  have e := txt_slc ht (bounds_both (P := P) h0 h1 h2) (r := tSub l i j) rfl
  simp only [sliceQ, ht, e, Option.map_some]
theorem txt_from {l : List UInt8} {i : Int} (ht : tyU P t = some .string) (h0 : 0 ≤ i) (h1 : i ≤ l.length) : sliceQ P t (.lit (.string ⟨⟨l⟩⟩)) (some (.lit (.int .i64 i))) none none = some (.lit (.string ⟨⟨tFrom l i⟩⟩)) := by
  have e := txt_slc ht (bounds_lo (P := P) h0 h1) (r := tFrom l i) (by rw [List.take_of_length_le (by rw [List.length_drop]; omega)]; rfl)
  simp only [sliceQ, ht, e, Option.map_some]
theorem txt_to {l : List UInt8} {j : Int} (ht : tyU P t = some .string) (h0 : 0 ≤ j) (h1 : j ≤ l.length) : sliceQ P t (.lit (.string ⟨⟨l⟩⟩)) none (some (.lit (.int .i64 j))) none = some (.lit (.string ⟨⟨tTo l j⟩⟩)) := by
  have e := txt_slc ht (bounds_hi (P := P) h0 h1) (r := tTo l j) (by simp [tTo])
  simp only [sliceQ, ht, e, Option.map_some]
theorem txt_len {h : Hp} {l : List UInt8} (ht : tyU P t = some .string) : lenQ P h t (.lit (.string ⟨⟨l⟩⟩)) = some (.lit (.int .i64 (l.length : Int)), []) := by
  have e : pureRun P (Builtin.len_ #[t] 0 #[.string ⟨⟨l⟩⟩]) = some (.int .i64 (l.length : Int)) := by
    show pureRun P (underlying t >>= fun d => _) = _
    rw [run_und ht]
    rfl
  simp only [lenQ, ht, SV.toLit, e]
end
structure Win (h : Hp) (b o : Nat) (cs : List SV) : Prop where
  lt : b < h.next
  get : ∃ l, knownCells h b = some l ∧ cut l o cs.length = some cs
structure GWin (Γ : Glob) (g o : Nat) (cs : List SV) : Prop where
  get : ∃ l, Γ.get g = some l ∧ cut (l.map .lit) o cs.length = some cs
theorem known_of {h H : Hp} {b : Nat} (e : H.objs.get b = h.objs.get b) : knownCells H b = knownCells h b := by
  simp only [knownCells, e]
theorem Win.kept {h H : Hp} {b o : Nat} {cs : List SV} (w : Win h b o cs) (k : Kept h.next h H) : Win H b o cs := ⟨Nat.lt_of_lt_of_le w.lt k.next, by rw [known_of (k.old b w.lt)]; exact w.get⟩
theorem Win.other {h H : Hp} {b o : Nat} {cs : List SV} (w : Win h b o cs) (j : H.objs.get b = h.objs.get b) (n : H.next = h.next) : Win H b o cs := ⟨by rw [n]; exact w.lt, by rw [known_of j]; exact w.get⟩
theorem cut_spec {l r : List SV} {o n : Nat} : cut l o n = some r ↔ (l.drop o).take n = r ∧ ((l.drop o).take n).length = n := by
  show (bif Nat.beq ((l.drop o).take n).length n then some ((l.drop o).take n) else none) = some r ↔ _
  cases hb : Nat.beq ((l.drop o).take n).length n with
  | false => exact ⟨fun h => (by cases h), fun h => (by rw [beq_t h.2] at hb; cases hb)⟩
  | true => exact ⟨fun h => ⟨Option.some.inj h, Nat.eq_of_beq_eq_true hb⟩, fun h => congrArg some h.1⟩
theorem cut_cut {l cs vs : List SV} {o k n : Nat} (h : cut l o cs.length = some cs) (hv : cut cs k n = some vs) : cut l (o + k) n = some vs := by
  obtain ⟨e1, _⟩ := cut_spec.1 h
  obtain ⟨e2, hlen⟩ := cut_spec.1 hv
  have e3 : (l.drop (o + k)).take n = (cs.drop k).take n := by
    have : (cs.drop k).take n = (((l.drop o).take cs.length).drop k).take n := by rw [e1]
    rw [this, List.drop_take, List.drop_drop, List.take_take]
    rw [List.length_take, List.length_drop] at hlen
    rw [Nat.min_eq_left (by omega)]
  exact cut_spec.2 ⟨e3.trans e2, by rw [e3]; exact hlen⟩
section
variable {P : Program} {Γ : Glob} {h : Hp} {t : TypeId} {b g o k n : Nat} {cs vs : List SV} {v : SV}
theorem cut_one (hv : cs[k]? = some v) : cut cs k 1 = some [v] := by
  have : (cs.drop k).take 1 = [v] := by rw [List.take_one, List.head?_drop, hv]; rfl
  simp only [cut, this]; rfl
theorem win_cell (ht : tyAgg P t = some false) (w : Win h b o cs) (hv : cs[k]? = some v) : loadQ P Γ h t (.ptr b (o + k)) = some (v, [.cells b (o + k) [v]]) := by
  obtain ⟨l, h1, h2⟩ := w.get
  simp only [loadQ, ht, readCells, h1, Option.bind_some, cut_cut h2 (cut_one hv)]
theorem win_cut (ht : tyAgg P t = some true) (hs : tySize P t = some n) (w : Win h b o cs) (hv : cut cs k n = some vs) : loadQ P Γ h t (.ptr b (o + k)) = some (.agg vs, [.cells b (o + k) vs]) := by
  obtain ⟨l, h1, h2⟩ := w.get
  simp only [loadQ, ht, hs, readCells, h1, Option.bind_some, cut_cut h2 hv]
theorem gwin_cell (ht : tyAgg P t = some false) (w : GWin Γ g o cs) (hv : cs[k]? = some v) : loadQ P Γ h t (.lit (.pointer (some ⟨g, o + k, none⟩))) = some (v, []) := by
  obtain ⟨l, h1, h2⟩ := w.get
  simp only [loadQ, ht, readCells, h1, Option.bind_some, cut_cut h2 (cut_one hv)]
theorem gwin_cut (ht : tyAgg P t = some true) (hs : tySize P t = some n) (w : GWin Γ g o cs) (hv : cut cs k n = some vs) : loadQ P Γ h t (.lit (.pointer (some ⟨g, o + k, none⟩))) = some (.agg vs, []) := by
  obtain ⟨l, h1, h2⟩ := w.get
  simp only [loadQ, ht, hs, readCells, h1, Option.bind_some, cut_cut h2 hv]
theorem fact_win (w : Win h b o cs) (hc : cut cs k vs.length = some vs) (hs : SV.sameL vs vs = true) : factHolds h (.cells b (o + k) vs) = true := by
  obtain ⟨l, h1, h2⟩ := w.get
  simp only [factHolds, h1, Option.bind_some, cut_cut h2 hc, hs]
end
def PtrTo (Γ : Glob) (h : Hp) (p : SV) (cs : List SV) : Prop := (∃ b o, p = .ptr b o ∧ Win h b o cs) ∨ (∃ g o, p = .lit (.pointer (some ⟨g, o, none⟩)) ∧ GWin Γ g o cs)
theorem PtrTo.kept {Γ : Glob} {h H : Hp} {p : SV} {cs : List SV} (w : PtrTo Γ h p cs) (k : Kept h.next h H) : PtrTo Γ H p cs := w.imp (fun ⟨b, o, e, w⟩ => ⟨b, o, e, w.kept k⟩) id
def padd (p : SV) (n : Nat) : SV := match p with
  | .ptr b o => .ptr b (o + n)
  | .lit (.pointer (some ⟨g, o, none⟩)) => .lit (.pointer (some ⟨g, o + n, none⟩))
  | v => v
def pfacts (p : SV) (k : Nat) (vs : List SV) : List Fact := match p with
  | .ptr b o => [.cells b (o + k) vs]
  | _ => []
section
variable {P : Program} {Γ : Glob} {h : Hp} {t s : TypeId} {k n i off : Nat} {cs vs : List SV} {v p : SV}
theorem PtrTo.cases {C : SV → Prop} (w : PtrTo Γ h p cs) (h1 : ∀ b o, C (.ptr b o)) (h2 : ∀ g o, C (.lit (.pointer (some ⟨g, o, none⟩)))) : C p := by
  rcases w with ⟨b, o, rfl, _⟩ | ⟨g, o, rfl, _⟩
  · exact h1 b o
  · exact h2 g o
theorem px_cell (ht : tyAgg P t = some false) (w : PtrTo Γ h p cs) (hv : cs[k]? = some v) : loadQ P Γ h t (padd p k) = some (v, pfacts p k [v]) := by
  rcases w with ⟨b, o, rfl, w⟩ | ⟨g, o, rfl, w⟩
  · exact win_cell ht w hv
  · exact gwin_cell ht w hv
theorem px_cut (ht : tyAgg P t = some true) (hs : tySize P t = some n) (w : PtrTo Γ h p cs) (hv : cut cs k n = some vs) : loadQ P Γ h t (padd p k) = some (.agg vs, pfacts p k vs) := by
  rcases w with ⟨b, o, rfl, w⟩ | ⟨g, o, rfl, w⟩
  · exact win_cut ht hs w hv
  · exact gwin_cut ht hs w hv
theorem padd_zero (w : PtrTo Γ h p cs) : padd p 0 = p := w.cases (C := fun p => padd p 0 = p) (fun _ _ => rfl) fun _ _ => rfl
theorem pfacts_stand {H : Hp} (w : PtrTo Γ H p cs) (hc : cut cs k vs.length = some vs) (hs : SV.sameL vs vs = true) : (pfacts p k vs).all (factHolds H) = true := by
  rcases w with ⟨b, o, rfl, w⟩ | ⟨g, o, rfl, w⟩
  · simp only [pfacts, List.all_cons, List.all_nil, fact_win w hc hs, Bool.and_self]
  · rfl
end
theorem cells_one {v : SV} (h : SV.one v = true) : SV.cells v = [v] := by
  cases v with
  | lit x => cases x <;> first | rfl | cases h
  | agg l => cases h
  | _ => rfl
open Go Go.Proofs.YtdhmljjpiainnaaGreatDoor.Ev
def Sub (Z Z' : Hp) : Prop := Z.next ≤ Z'.next ∧ ∀ b o, Z.objs.get b = some o → Z'.objs.get b = some o
theorem Sub.refl (Z : Hp) : Sub Z Z := ⟨Nat.le_refl _, fun _ _ h => h⟩
theorem Sub.trans {A B C : Hp} (h : Sub A B) (k : Sub B C) : Sub A C := ⟨Nat.le_trans h.1 k.1, fun b o e => k.2 b o (h.2 b o e)⟩
structure Asrt where
  p : Hp → (Nat → Prop) → Hp → Prop
  loc : ∀ {Z : Hp} {D : Nat → Prop} {h h' : Hp}, (∀ b, D b → h'.objs.get b = h.objs.get b) → p Z D h → p Z D h'
  mono : ∀ {Z Z' : Hp} {D : Nat → Prop} {h : Hp}, Sub Z Z' → p Z D h → p Z' D h
def emp : Asrt := ⟨fun _ _ _ => True, fun _ _ => trivial, fun _ _ => trivial⟩
structure Va where
  i : Nat → Int
  t : Nat → List UInt8
  b : Nat → Bool
  r : Nat → SV
  n : Nat → Nat
  a : Nat → Asrt
  one : ∀ k, SV.one (r k) = true
  self : ∀ k, SV.same (r k) (r k) = true
structure Cnt where
  i : Nat := 0
  t : Nat := 0
  b : Nat := 0
  r : Nat := 0
  n : Nat := 0
  a : Nat := 0
def Cnt.n1 (c : Cnt) : Cnt := ⟨c.i, c.t, c.b, c.r, c.n + 1, c.a⟩
structure Vals where
  i : List Int := []
  t : List (List UInt8) := []
  b : List Bool := []
  r : List SV := []
  n : List Nat := []
  a : List Asrt := []
def pick1 {α : Type} (f : Nat → α) (c : Nat) (l : List α) (d : α) (k : Nat) : α := bif Nat.blt k c then f k else l.getD (k - c) d
def oneS (v : SV) : SV := bif SV.one v && SV.same v v then v else .lit (.bool false)
theorem oneS_of {v : SV} (h : SV.one v = true) (h' : SV.same v v = true) : oneS v = v := by rw [oneS, h, h']; rfl
theorem oneS_one (v : SV) : SV.one (oneS v) = true ∧ SV.same (oneS v) (oneS v) = true := by
  unfold oneS
  cases h : SV.one v && SV.same v v with
  | true =>
    rw [Bool.and_eq_true] at h
    exact h
  | false => exact ⟨rfl, rfl⟩
theorem pick1_one {f : Nat → SV} {c : Nat} {l : List SV} (h : ∀ k, SV.one (f k) = true) (h' : ∀ k, SV.same (f k) (f k) = true) (k : Nat) : SV.one (pick1 f c (l.map oneS) (.lit (.bool false)) k) = true ∧ SV.same (pick1 f c (l.map oneS) (.lit (.bool false)) k) (pick1 f c (l.map oneS) (.lit (.bool false)) k) = true := by
  unfold pick1
  cases Nat.blt k c with
  | true => exact ⟨h k, h' k⟩
  | false =>
    simp only [cond_false, List.getD_eq_getElem?_getD]
    cases e : (l.map oneS)[k - c]? with
    | none => exact ⟨rfl, rfl⟩
    | some v =>
      obtain ⟨w, _, rfl⟩ := List.mem_map.1 (List.mem_of_getElem? e)
      exact oneS_one w
def Va.ext (ρ : Va) (c : Cnt) (e : Vals) : Va where
  i := pick1 ρ.i c.i e.i 0
  t := pick1 ρ.t c.t e.t []
  b := pick1 ρ.b c.b e.b false
  r := pick1 ρ.r c.r (e.r.map oneS) (.lit (.bool false))
  n := pick1 ρ.n c.n e.n 0
  a := pick1 ρ.a c.a e.a emp
  one := fun k => (pick1_one ρ.one ρ.self k).1
  self := fun k => (pick1_one ρ.one ρ.self k).2
def Va.nil : Va := ⟨fun _ => 0, fun _ => [], fun _ => false, fun _ => .lit (.bool false), fun _ => 0, fun _ => emp, fun _ => rfl, fun _ => rfl⟩
def va (e : Vals) : Va := Va.nil.ext {} e
structure Agree (c : Cnt) (ρ ρ' : Va) : Prop where
  i : ∀ k, k < c.i → ρ'.i k = ρ.i k
  t : ∀ k, k < c.t → ρ'.t k = ρ.t k
  b : ∀ k, k < c.b → ρ'.b k = ρ.b k
  r : ∀ k, k < c.r → ρ'.r k = ρ.r k
  n : ∀ k, k < c.n → ρ'.n k = ρ.n k
  a : ∀ k, k < c.a → ρ'.a k = ρ.a k
theorem pick1_lt {α : Type} {f : Nat → α} {c : Nat} {l : List α} {d : α} {k : Nat} (h : k < c) : pick1 f c l d k = f k := by
  unfold pick1
  rw [show Nat.blt k c = true from Nat.ble_eq_true_of_le h]
  rfl
theorem agree_ext (c : Cnt) (ρ : Va) (e : Vals) : Agree c ρ (ρ.ext c e) := ⟨fun _ h => pick1_lt h, fun _ h => pick1_lt h, fun _ h => pick1_lt h, fun _ h => pick1_lt h, fun _ h => pick1_lt h, fun _ h => pick1_lt h⟩
inductive X where
  | v (i : Nat) | z (n : Int) | add (a b : X) | sub (a b : X) | mul (a b : X) | neg (a : X) | quo (a b : X) | rem (a b : X) | wr (k : IntKind) (a : X)
  | len (t : X) | at (t i : X)
  | tv (i : Nat) | tl (l : List UInt8) | tfr (t i : X) | tto (t i : X) | tmid (t i j : X) | cat (a b : X)
  | bv (i : Nat) | bl (b : Bool) | lt (a b : X) | le (a b : X) | eq (a b : X) | teq (a b : X) | beq (a b : X) | not (a : X) | and (a b : X) | or (a b : X)
structure D where
  i : Int := 0
  t : List UInt8 := []
  b : Bool := false
def X.den (ρ : Va) : X → D
  | .v k => { i := ρ.i k }
  | .z n => { i := n }
  | .add a b => { i := (a.den ρ).i + (b.den ρ).i }
  | .sub a b => { i := (a.den ρ).i - (b.den ρ).i }
  | .mul a b => { i := (a.den ρ).i * (b.den ρ).i }
  | .neg a => { i := -(a.den ρ).i }
  | .quo a b => { i := (a.den ρ).i.tdiv (b.den ρ).i }
  | .rem a b => { i := (a.den ρ).i.tmod (b.den ρ).i }
  | .wr k a => { i := k.wrap (a.den ρ).i }
  | .len t => { i := ((t.den ρ).t.length : Int) }
  | .at t i => { i := bAt (t.den ρ).t (i.den ρ).i }
  | .tv k => { t := ρ.t k }
  | .tl l => { t := l }
  | .tfr t i => { t := tFrom (t.den ρ).t (i.den ρ).i }
  | .tto t i => { t := tTo (t.den ρ).t (i.den ρ).i }
  | .tmid t i j => { t := tSub (t.den ρ).t (i.den ρ).i (j.den ρ).i }
  | .cat a b => { t := (a.den ρ).t ++ (b.den ρ).t }
  | .bv k => { b := ρ.b k }
  | .bl b => { b := b }
  | .lt a b => { b := decide ((a.den ρ).i < (b.den ρ).i) }
  | .le a b => { b := decide ((a.den ρ).i ≤ (b.den ρ).i) }
  | .eq a b => { b := decide ((a.den ρ).i = (b.den ρ).i) }
  | .teq a b => { b := decide ((a.den ρ).t = (b.den ρ).t) }
  | .beq a b => { b := (a.den ρ).b == (b.den ρ).b }
  | .not a => { b := !(a.den ρ).b }
  | .and a b => { b := (a.den ρ).b && (b.den ρ).b }
  | .or a b => { b := (a.den ρ).b || (b.den ρ).b }
def X.prop (ρ : Va) : X → Prop
  | .bv k => ρ.b k = true
  | .bl b => b = true
  | .lt a b => (a.den ρ).i < (b.den ρ).i
  | .le a b => (a.den ρ).i ≤ (b.den ρ).i
  | .eq a b => (a.den ρ).i = (b.den ρ).i
  | .teq a b => (a.den ρ).t = (b.den ρ).t
  | .beq a b => (a.den ρ).b = (b.den ρ).b
  | .not a => ¬ a.prop ρ
  | .and a b => a.prop ρ ∧ b.prop ρ
  | .or a b => a.prop ρ ∨ b.prop ρ
  | _ => False
theorem X.prop_iff (ρ : Va) : ∀ x : X, (x.den ρ).b = true ↔ x.prop ρ := by
  intro x
  induction x with
  | not a ih =>
    simp only [X.den, X.prop, ← ih]
    cases (a.den ρ).b <;> simp
  | and a b iha ihb => simp only [X.den, X.prop, ← iha, ← ihb, Bool.and_eq_true]
  | or a b iha ihb => simp only [X.den, X.prop, ← iha, ← ihb, Bool.or_eq_true]
  | _ => simp [X.den, X.prop]
theorem X.prop_false (ρ : Va) (x : X) : (x.den ρ).b = false ↔ ¬ x.prop ρ := by
  rw [← X.prop_iff]
  cases (x.den ρ).b <;> simp
def X.sc (c : Cnt) : X → Bool
  | .v k => Nat.blt k c.i
  | .tv k => Nat.blt k c.t
  | .bv k => Nat.blt k c.b
  | .z _ | .tl _ | .bl _ => true
  | .neg a | .len a | .not a | .wr _ a => a.sc c
  | .add a b | .sub a b | .mul a b | .quo a b | .rem a b | .at a b | .tfr a b | .tto a b | .cat a b | .lt a b | .le a b | .eq a b | .teq a b | .beq a b | .and a b | .or a b => a.sc c && b.sc c
  | .tmid a i j => a.sc c && (i.sc c && j.sc c)
theorem X.den_agree {c : Cnt} {ρ ρ' : Va} (h : Agree c ρ ρ') : ∀ x : X, x.sc c = true → x.den ρ' = x.den ρ := by
  intro x
  induction x with
  | v k => intro hl; simp only [X.den, h.i k (lt_of_blt hl)]
  | tv k => intro hl; simp only [X.den, h.t k (lt_of_blt hl)]
  | bv k => intro hl; simp only [X.den, h.b k (lt_of_blt hl)]
  | z _ => intro _; rfl
  | tl _ => intro _; rfl
  | bl _ => intro _; rfl
  | neg a ih => intro hl; simp only [X.den, ih hl]
  | len a ih => intro hl; simp only [X.den, ih hl]
  | wr k a ih => intro hl; simp only [X.den, ih hl]
  | not a ih => intro hl; simp only [X.den, ih hl]
  | tmid a i j h1 h2 h3 =>
    intro hl
    simp only [X.sc, Bool.and_eq_true] at hl
    simp only [X.den, h1 hl.1, h2 hl.2.1, h3 hl.2.2]
  | _ =>
    rename_i h1 h2
    intro hl
    simp only [X.sc, Bool.and_eq_true] at hl
    simp only [X.den, h1 hl.1, h2 hl.2]
def bytesEq : List UInt8 → List UInt8 → Bool
  | [], [] => true
  | a :: l, b :: m => Nat.beq a.toNat b.toNat && bytesEq l m
  | _, _ => false
theorem bytesEq_eq : ∀ {l m : List UInt8}, bytesEq l m = true → l = m
  | [], [], _ => rfl
  | a :: l, b :: m, h => by
    simp only [bytesEq, Bool.and_eq_true] at h
    rw [UInt8.toNat_inj.1 (eq_of_beq h.1), bytesEq_eq h.2]
  | [], _ :: _, h => by cases h
  | _ :: _, [], h => by cases h
def intEq : Int → Int → Bool
  | .ofNat a, .ofNat b => Nat.beq a b
  | .negSucc a, .negSucc b => Nat.beq a b
  | _, _ => false
theorem intEq_eq : ∀ {a b : Int}, intEq a b = true → a = b
  | .ofNat _, .ofNat _, h => by rw [eq_of_beq h]
  | .negSucc _, .negSucc _, h => by rw [eq_of_beq h]
  | .ofNat _, .negSucc _, h => by cases h
  | .negSucc _, .ofNat _, h => by cases h
def X.same : X → X → Bool
  | .v i, .v j => Nat.beq i j
  | .z a, .z b => intEq a b
  | .add a b, .add c d => a.same c && b.same d
  | .sub a b, .sub c d => a.same c && b.same d
  | .mul a b, .mul c d => a.same c && b.same d
  | .neg a, .neg c => a.same c
  | .wr k a, .wr k' c => decide (k = k') && a.same c
  | .quo a b, .quo c d => a.same c && b.same d
  | .rem a b, .rem c d => a.same c && b.same d
  | .len a, .len c => a.same c
  | .at a b, .at c d => a.same c && b.same d
  | .tv i, .tv j => Nat.beq i j
  | .tl l, .tl m => bytesEq l m
  | .tfr a b, .tfr c d => a.same c && b.same d
  | .tto a b, .tto c d => a.same c && b.same d
  | .tmid a b e, .tmid c d f => a.same c && (b.same d && e.same f)
  | .cat a b, .cat c d => a.same c && b.same d
  | .bv i, .bv j => Nat.beq i j
  | .bl a, .bl b => a == b
  | .lt a b, .lt c d => a.same c && b.same d
  | .le a b, .le c d => a.same c && b.same d
  | .eq a b, .eq c d => a.same c && b.same d
  | .teq a b, .teq c d => a.same c && b.same d
  | .beq a b, .beq c d => a.same c && b.same d
  | .not a, .not c => a.same c
  | .and a b, .and c d => a.same c && b.same d
  | .or a b, .or c d => a.same c && b.same d
  | _, _ => false
theorem X.same_eq : ∀ (x y : X), x.same y = true → x = y := by
  intro x
  induction x with
  | v i => intro y h; cases y <;> first | (cases h; done) | rw [eq_of_beq (show Nat.beq _ _ = true from h)]
  | tv i => intro y h; cases y <;> first | (cases h; done) | rw [eq_of_beq (show Nat.beq _ _ = true from h)]
  | bv i => intro y h; cases y <;> first | (cases h; done) | rw [eq_of_beq (show Nat.beq _ _ = true from h)]
  | z a => intro y h; cases y <;> first | (cases h; done) | rw [intEq_eq (show intEq _ _ = true from h)]
  | tl l => intro y h; cases y <;> first | (cases h; done) | rw [bytesEq_eq (show bytesEq _ _ = true from h)]
  | bl b => intro y h; cases y <;> first | (cases h; done) | rw [beq_iff_eq.1 (show (_ == _) = true from h)]
  | neg a ih => intro y h; cases y <;> first | (cases h; done) | rw [ih _ h]
  | len a ih => intro y h; cases y <;> first | (cases h; done) | rw [ih _ h]
  | not a ih => intro y h; cases y <;> first | (cases h; done) | rw [ih _ h]
  | wr k a ih =>
    intro y h
    cases y <;> first | (cases h; done) | skip
    simp only [X.same, Bool.and_eq_true, decide_eq_true_eq] at h
    rw [h.1, ih _ h.2]
  | tmid a b e h1 h2 h3 =>
    intro y h
    cases y <;> first | (cases h; done) | skip
    simp only [X.same, Bool.and_eq_true] at h
    rw [h1 _ h.1, h2 _ h.2.1, h3 _ h.2.2]
  | _ =>
    rename_i h1 h2
    intro y h
    cases y <;> first | (cases h; done) | skip
    simp only [X.same, Bool.and_eq_true] at h
    rw [h1 _ h.1, h2 _ h.2]
inductive XV where
  | int (k : IntKind) (e : X)
  | bool (e : X)
  | txt (e : X)
  | lit (v : Value)
  | ptr (n off : Nat)
  | raw (i : Nat)
  | pad (i k : Nat)
  | map (n : Nat)
  | slice (n off len cap : Nat)
  | agg (l : List XV)
  | tup (l : List XV)
  | fn (f : FuncId) (a c : List XV)
  | yield (n : Nat)
  | iface (t : TypeId) (v : XV)
  deriving Inhabited
mutual
def XV.sv (ρ : Va) : XV → SV
  | .int k e => .lit (.int k (e.den ρ).i)
  | .bool e => .lit (.bool (e.den ρ).b)
  | .txt e => .lit (.string ⟨⟨(e.den ρ).t⟩⟩)
  | .lit v => .lit v
  | .ptr n off => .ptr (ρ.n n) off
  | .raw i => ρ.r i
  | .pad i k => padd (ρ.r i) k
  | .map n => .map (ρ.n n)
  | .slice n off len cap => .slice (ρ.n n) off len cap
  | .agg l => .agg (svL ρ l)
  | .tup l => .tuple (svL ρ l)
  | .fn f a c => .func (.func f) (svL ρ a) (svL ρ c)
  | .yield n => .yield (ρ.n n)
  | .iface t v => .iface t (v.sv ρ)
def svL (ρ : Va) : List XV → List SV
  | [] => []
  | v :: l => v.sv ρ :: svL ρ l
end
theorem svL_map (ρ : Va) : ∀ l : List XV, svL ρ l = l.map (·.sv ρ)
  | [] => rfl
  | v :: l => by rw [svL, svL_map ρ l, List.map_cons]
@[simp] theorem svL_len (ρ : Va) (l : List XV) : (svL ρ l).length = l.length := by rw [svL_map, List.length_map]
theorem svL_app (ρ : Va) (l m : List XV) : svL ρ (l ++ m) = svL ρ l ++ svL ρ m := by simp only [svL_map, List.map_append]
theorem svL_get (ρ : Va) (l : List XV) (i : Nat) : (svL ρ l)[i]? = (l[i]?).map (·.sv ρ) := by rw [svL_map, List.getElem?_map]
theorem svL_drop (ρ : Va) (l : List XV) (i : Nat) : (svL ρ l).drop i = svL ρ (l.drop i) := by rw [svL_map, svL_map, List.map_drop]
theorem svL_take (ρ : Va) (l : List XV) (i : Nat) : (svL ρ l).take i = svL ρ (l.take i) := by rw [svL_map, svL_map, List.map_take]
mutual
def XV.sc (c : Cnt) : XV → Bool
  | .int _ e => e.sc c
  | .bool e => e.sc c
  | .txt e => e.sc c
  | .lit _ => true
  | .ptr n _ => Nat.blt n c.n
  | .raw i => Nat.blt i c.r
  | .pad i _ => Nat.blt i c.r
  | .map n => Nat.blt n c.n
  | .slice n _ _ _ => Nat.blt n c.n
  | .agg l => scL c l
  | .tup l => scL c l
  | .fn _ a b => scL c a && scL c b
  | .yield n => Nat.blt n c.n
  | .iface _ v => v.sc c
def scL (c : Cnt) : List XV → Bool
  | [] => true
  | v :: l => v.sc c && scL c l
end
mutual
theorem XV.sv_agree {c : Cnt} {ρ ρ' : Va} (h : Agree c ρ ρ') : ∀ v : XV, v.sc c = true → v.sv ρ' = v.sv ρ
  | .int k e, hl => by simp only [XV.sv, e.den_agree h hl]
  | .bool e, hl => by simp only [XV.sv, e.den_agree h hl]
  | .txt e, hl => by simp only [XV.sv, e.den_agree h hl]
  | .lit _, _ => rfl
  | .ptr n _, hl => by simp only [XV.sv, h.n n (lt_of_blt hl)]
  | .raw i, hl => h.r i (lt_of_blt hl)
  | .pad i _, hl => by simp only [XV.sv, h.r i (lt_of_blt hl)]
  | .map n, hl => by simp only [XV.sv, h.n n (lt_of_blt hl)]
  | .slice n _ _ _, hl => by simp only [XV.sv, h.n n (lt_of_blt hl)]
  | .agg l, hl => by simp only [XV.sv, svL_agree h l hl]
  | .tup l, hl => by simp only [XV.sv, svL_agree h l hl]
  | .fn _ a b, hl => by
    simp only [XV.sc, Bool.and_eq_true] at hl
    simp only [XV.sv, svL_agree h a hl.1, svL_agree h b hl.2]
  | .yield n, hl => by simp only [XV.sv, h.n n (lt_of_blt hl)]
  | .iface _ v, hl => by simp only [XV.sv, v.sv_agree h hl]
theorem svL_agree {c : Cnt} {ρ ρ' : Va} (h : Agree c ρ ρ') : ∀ l : List XV, scL c l = true → svL ρ' l = svL ρ l
  | [], _ => rfl
  | v :: l, hl => by
    simp only [scL, Bool.and_eq_true] at hl
    simp only [svL, v.sv_agree h hl.1, svL_agree h l hl.2]
end
mutual
def XV.same : XV → XV → Bool
  | .int k e, .int k' e' => decide (k = k') && e.same e'
  | .bool e, .bool e' => e.same e'
  | .txt e, .txt e' => e.same e'
  | .lit v, .lit v' => SV.same (.lit v) (.lit v')
  | .ptr n o, .ptr n' o' => Nat.beq n n' && Nat.beq o o'
  | .raw i, .raw j => Nat.beq i j
  | .pad i k, .pad j k' => Nat.beq i j && Nat.beq k k'
  | .map n, .map m => Nat.beq n m
  | .slice n a b c, .slice n' a' b' c' => Nat.beq n n' && (Nat.beq a a' && (Nat.beq b b' && Nat.beq c c'))
  | .agg l, .agg m => sameXL l m
  | .tup l, .tup m => sameXL l m
  | .fn f a c, .fn g a' c' => Nat.beq f g && (sameXL a a' && sameXL c c')
  | .yield n, .yield m => Nat.beq n m
  | .iface t v, .iface t' v' => Nat.beq t t' && v.same v'
  | _, _ => false
def sameXL : List XV → List XV → Bool
  | [], [] => true
  | v :: l, w :: m => v.same w && sameXL l m
  | _, _ => false
end
mutual
theorem XV.same_eq (ρ : Va) : ∀ (x y : XV), x.same y = true → x.sv ρ = y.sv ρ
  | .int k e, y, h => by
    cases y <;> first | (cases h; done) | skip
    simp only [XV.same, Bool.and_eq_true, decide_eq_true_eq] at h
    rw [h.1, X.same_eq _ _ h.2]
  | .bool e, y, h => by
    cases y <;> first | (cases h; done) | skip
    rw [X.same_eq _ _ h]
  | .txt e, y, h => by
    cases y <;> first | (cases h; done) | skip
    rw [X.same_eq _ _ h]
  | .lit v, y, h => by
    cases y <;> first | (cases h; done) | skip
    exact Ev.same_eq _ _ h
  | .ptr n o, y, h => by
    cases y <;> first | (cases h; done) | skip
    simp only [XV.same, Bool.and_eq_true] at h
    rw [eq_of_beq h.1, eq_of_beq h.2]
  | .raw i, y, h => by
    cases y <;> first | (cases h; done) | skip
    rw [eq_of_beq h]
  | .pad i k, y, h => by
    cases y <;> first | (cases h; done) | skip
    simp only [XV.same, Bool.and_eq_true] at h
    rw [eq_of_beq h.1, eq_of_beq h.2]
  | .map n, y, h => by
    cases y <;> first | (cases h; done) | skip
    rw [eq_of_beq h]
  | .slice n a b c, y, h => by
    cases y <;> first | (cases h; done) | skip
    simp only [XV.same, Bool.and_eq_true] at h
    rw [eq_of_beq h.1, eq_of_beq h.2.1, eq_of_beq h.2.2.1, eq_of_beq h.2.2.2]
  | .agg l, y, h => by
    cases y <;> first | (cases h; done) | skip
    simp only [XV.sv, sameXL_eq ρ _ _ h]
  | .tup l, y, h => by
    cases y <;> first | (cases h; done) | skip
    simp only [XV.sv, sameXL_eq ρ _ _ h]
  | .fn f a c, y, h => by
    cases y <;> first | (cases h; done) | skip
    simp only [XV.same, Bool.and_eq_true] at h
    simp only [XV.sv, eq_of_beq h.1, sameXL_eq ρ _ _ h.2.1, sameXL_eq ρ _ _ h.2.2]
  | .yield n, y, h => by
    cases y <;> first | (cases h; done) | skip
    rw [eq_of_beq h]
  | .iface t v, y, h => by
    cases y <;> first | (cases h; done) | skip
    simp only [XV.same, Bool.and_eq_true] at h
    simp only [XV.sv, eq_of_beq h.1, XV.same_eq ρ _ _ h.2]
theorem sameXL_eq (ρ : Va) : ∀ (l m : List XV), sameXL l m = true → svL ρ l = svL ρ m
  | [], [], _ => rfl
  | v :: l, w :: m, h => by
    simp only [sameXL, Bool.and_eq_true] at h
    simp only [svL, XV.same_eq ρ _ _ h.1, sameXL_eq ρ _ _ h.2]
  | [], _ :: _, h => by cases h
  | _ :: _, [], h => by cases h
end
def ofLit : Value → XV
  | .int k n => .int k (.z n)
  | .bool b => .bool (.bl b)
  | .string s => .txt (.tl s.data.toList)
  | v => .lit v
theorem ofLit_sv (ρ : Va) (v : Value) : (ofLit v).sv ρ = .lit v := by cases v <;> rfl
theorem ofLit_map (ρ : Va) (l : List Value) : svL ρ (l.map ofLit) = l.map .lit := by
  rw [svL_map, List.map_map]
  exact List.map_congr_left fun v _ => ofLit_sv ρ v
def XV.cells : XV → List XV
  | .agg l => l
  | .lit (.agg cs) => cs.toList.map ofLit
  | v => [v]
theorem padd_one {p : SV} {k : Nat} (h : SV.one p = true) : SV.one (padd p k) = true := by
  unfold padd
  split <;> first | rfl | exact h
theorem XV.cells_sv (ρ : Va) (v : XV) : svL ρ v.cells = (v.sv ρ).cells := by
  cases v with
  | lit v => cases v <;> simp [XV.cells, XV.sv, SV.cells, svL, ofLit_map]
  | agg l => rfl
  | raw i => simp only [XV.cells, svL, XV.sv, cells_one (ρ.one i)]
  | pad i k => simp only [XV.cells, svL, XV.sv, cells_one (padd_one (ρ.one i))]
  | _ => rfl
def XV.one : XV → Bool
  | .agg _ | .tup _ | .lit (.agg _) | .lit (.tuple _) => false
  | _ => true
theorem XV.one_sv (ρ : Va) {v : XV} (h : v.one = true) : SV.one (v.sv ρ) = true := by
  cases v with
  | lit v => cases v <;> first | rfl | cases h
  | agg l => cases h
  | tup l => cases h
  | raw i => exact ρ.one i
  | pad i k => exact padd_one (ρ.one i)
  | _ => rfl
theorem XV.one_all (ρ : Va) : ∀ {l : List XV}, l.all XV.one = true → (svL ρ l).all SV.one = true
  | [], _ => rfl
  | v :: l, h => by
    simp only [List.all_cons, Bool.and_eq_true] at h
    simp only [svL, List.all_cons, XV.one_sv ρ h.1, XV.one_all ρ h.2, Bool.and_self]
mutual
def XV.rfl' : XV → Bool
  | .lit v => SV.same (.lit v) (.lit v)
  | .agg l => rflL l
  | .tup l => rflL l
  | .fn _ a c => rflL a && rflL c
  | .yield _ => false
  | .iface _ v => v.rfl'
  | _ => true
def rflL : List XV → Bool
  | [] => true
  | v :: l => v.rfl' && rflL l
end
theorem padd_self {p : SV} {k : Nat} (h : SV.same p p = true) : SV.same (padd p k) (padd p k) = true := by
  unfold padd
  split
  · simp [SV.same]
  · simp [SV.same, litSame]
  · exact h
mutual
theorem XV.rfl_sv (ρ : Va) : ∀ v : XV, v.rfl' = true → SV.same (v.sv ρ) (v.sv ρ) = true
  | .int _ _, _ => by simp [XV.sv, SV.same, litSame]
  | .bool _, _ => by simp [XV.sv, SV.same, litSame]
  | .txt _, _ => by simp [XV.sv, SV.same, litSame]
  | .lit _, h => h
  | .ptr _ _, _ => by simp [XV.sv, SV.same]
  | .raw i, _ => ρ.self i
  | .pad i k, _ => padd_self (ρ.self i)
  | .map _, _ => by simp [XV.sv, SV.same]
  | .slice _ _ _ _, _ => by simp [XV.sv, SV.same]
  | .agg l, h => by simp only [XV.sv, SV.same, rflL_sv ρ l h]
  | .tup l, h => by simp only [XV.sv, SV.same, rflL_sv ρ l h]
  | .fn f a c, h => by
    simp only [XV.rfl', Bool.and_eq_true] at h
    simp only [XV.sv, SV.same, rflL_sv ρ a h.1, rflL_sv ρ c h.2, beq_t rfl, Bool.and_self]
  | .yield _, h => by cases h
  | .iface t v, h => by simp only [XV.sv, SV.same, v.rfl_sv ρ h, beq_t rfl, Bool.and_self]
theorem rflL_sv (ρ : Va) : ∀ l : List XV, rflL l = true → SV.sameL (svL ρ l) (svL ρ l) = true
  | [], _ => rfl
  | v :: l, h => by
    simp only [rflL, Bool.and_eq_true] at h
    simp only [svL, SV.sameL, v.rfl_sv ρ h.1, rflL_sv ρ l h.2, Bool.and_self]
end
open Go Go.Proofs.YtdhmljjpiainnaaGreatDoor.Ev
def Sep (Z : Hp) : List Asrt → (Nat → Prop) → Hp → Prop
  | [], _, _ => True
  | a :: l, U, h => ∃ D : Nat → Prop, (∀ b, D b → ¬ U b ∧ b < h.next) ∧ a.p Z D h ∧ Sep Z l (fun b => U b ∨ D b) h
theorem sep_move {Z : Hp} {l : List Asrt} : ∀ {U U' : Nat → Prop} {h h' : Hp}, h.next ≤ h'.next → (∀ b, b < h.next → ¬ U b → h'.objs.get b = h.objs.get b) → (∀ b, U' b → b < h.next → U b) → Sep Z l U h → Sep Z l U' h' := by
  induction l with
  | nil => intros; trivial
  | cons a l ih =>
    rintro U U' h h' hn hk hu ⟨D, h1, h2, h3⟩
    exact ⟨D, fun b hb => ⟨fun hb' => (h1 b hb).1 (hu b hb' (h1 b hb).2), Nat.lt_of_lt_of_le (h1 b hb).2 hn⟩, a.loc (fun b hb => hk b (h1 b hb).2 (h1 b hb).1) h2, ih hn (fun b hb hu => hk b hb fun hb' => hu (.inl hb')) (fun b hb hl => hb.imp (fun x => hu b x hl) id) h3⟩
theorem sep_mono {Z Z' : Hp} (z : Sub Z Z') {l : List Asrt} : ∀ {U : Nat → Prop} {h : Hp}, Sep Z l U h → Sep Z' l U h := by
  induction l with
  | nil => intros; trivial
  | cons a l ih =>
    rintro U h ⟨D, h1, h2, h3⟩
    exact ⟨D, h1, a.mono z h2, ih h3⟩
theorem sep_less {Z : Hp} {l : List Asrt} {U U' : Nat → Prop} {h : Hp} (hu : ∀ b, U' b → U b) (s : Sep Z l U h) : Sep Z l U' h := sep_move (Nat.le_refl _) (fun _ _ _ => rfl) (fun b hb _ => hu b hb) s
theorem sep_keep {Z : Hp} {l : List Asrt} {U : Nat → Prop} {h h' : Hp} (hn : h.next ≤ h'.next) (hk : ∀ b, b < h.next → ¬ U b → h'.objs.get b = h.objs.get b) (s : Sep Z l U h) : Sep Z l U h' := sep_move hn hk (fun _ hb _ => hb) s
theorem sep_swap {Z : Hp} {a b : Asrt} {l : List Asrt} {U : Nat → Prop} {h : Hp} (s : Sep Z (a :: b :: l) U h) : Sep Z (b :: a :: l) U h := by
  obtain ⟨D, h1, h2, E, h3, h4, h5⟩ := s
  refine ⟨E, fun x hx => ⟨fun hu => (h3 x hx).1 (.inl hu), (h3 x hx).2⟩, h4, D, fun x hx => ⟨fun hu => hu.elim (h1 x hx).1 fun he => (h3 x he).1 (.inr hx), (h1 x hx).2⟩, h2, sep_less (fun x hx => ?_) h5⟩
  rcases hx with (hx | hx) | hx
  · exact .inl (.inl hx)
  · exact .inr hx
  · exact .inl (.inr hx)
theorem sep_cons {Z : Hp} {a : Asrt} {l l' : List Asrt} (hl : ∀ U h, Sep Z l U h → Sep Z l' U h) {U : Nat → Prop} {h : Hp} (s : Sep Z (a :: l) U h) : Sep Z (a :: l') U h := by
  obtain ⟨D, h1, h2, h3⟩ := s
  exact ⟨D, h1, h2, hl _ _ h3⟩
theorem sep_perm {Z : Hp} {l l' : List Asrt} (p : l.Perm l') : ∀ {U : Nat → Prop} {h : Hp}, Sep Z l U h → Sep Z l' U h := by
  induction p with
  | nil => exact id
  | cons a _ ih => exact sep_cons fun _ _ => ih
  | swap a b l => exact sep_swap
  | trans _ _ h1 h2 => exact fun s => h2 (h1 s)
theorem sep_app {Z : Hp} {l m : List Asrt} : ∀ {U : Nat → Prop} {h : Hp}, Sep Z (l ++ m) U h → Sep Z m U h := by
  induction l with
  | nil => exact id
  | cons a l ih =>
    rintro U h ⟨D, _, _, h3⟩
    exact sep_less (fun b hb => .inl hb) (ih h3)
structure St (Z : Hp) (l : List Asrt) (h : Hp) : Prop where
  frz : ∀ b o, Z.objs.get b = some o → h.objs.get b = some o
  zlt : ∀ b o, Z.objs.get b = some o → b < h.next
  sep : Sep Z l (fun b => Z.objs.get b ≠ none) h
theorem St.perm {Z h : Hp} {l l' : List Asrt} (s : St Z l h) (p : l.Perm l') : St Z l' h := ⟨s.frz, s.zlt, sep_perm p s.sep⟩
theorem St.kept {Z h h' : Hp} {l : List Asrt} (s : St Z l h) (k : Kept h.next h h') : St Z l h' :=
  ⟨fun b o e => (k.old b (s.zlt b o e)).trans (s.frz b o e), fun b o e => Nat.lt_of_lt_of_le (s.zlt b o e) k.next, sep_keep k.next (fun b hb _ => k.old b hb) s.sep⟩
theorem St.drop {Z h : Hp} {l m : List Asrt} (s : St Z (l ++ m) h) : St Z m h := ⟨s.frz, s.zlt, sep_app s.sep⟩
theorem St.drop1 {Z h : Hp} {a : Asrt} {l m : List Asrt} (s : St Z (l ++ a :: m) h) : St Z (l ++ m) h := (s.perm List.perm_middle).drop (l := [a])
def own (b : Nat) (o : AObj) : Asrt := ⟨fun _ D h => (∀ x, D x ↔ x = b) ∧ h.objs.get b = some o, fun hk ⟨h1, h2⟩ => ⟨h1, (hk _ ((h1 _).2 rfl)).trans h2⟩, fun _ h => h⟩
def hid (b : Nat) : Asrt := ⟨fun _ D h => (∀ x, D x ↔ x = b) ∧ h.objs.get b = none, fun hk ⟨h1, h2⟩ => ⟨h1, (hk _ ((h1 _).2 rfl)).trans h2⟩, fun _ h => h⟩
section
variable {Z h : Hp} {l m : List Asrt} {b : Nat} {o o' : AObj}
theorem St.pull {a : Asrt} (s : St Z (l ++ a :: m) h) : St Z (a :: (l ++ m)) h := s.perm List.perm_middle
theorem St.push {a : Asrt} (s : St Z (a :: (l ++ m)) h) : St Z (l ++ a :: m) h := s.perm List.perm_middle.symm
theorem St.get (s : St Z (l ++ own b o :: m) h) : h.objs.get b = some o ∧ b < h.next := by
  obtain ⟨D, h1, ⟨h2, h3⟩, _⟩ := s.pull.sep
  exact ⟨h3, (h1 b ((h2 b).2 rfl)).2⟩
theorem St.set0 (s : St Z (own b o :: l) h) : St Z (own b o' :: l) ⟨h.objs.set b o', h.next⟩ := by
  obtain ⟨D, h1, ⟨h2, h3⟩, h4⟩ := s.sep
  have hz : Z.objs.get b = none := Classical.not_not.1 (h1 b ((h2 b).2 rfl)).1
  refine ⟨fun x p e => ?_, s.zlt, D, h1, ⟨h2, get_same⟩, sep_keep (h := h) (Nat.le_refl _) (fun x _ hx => ?_) h4⟩
  · exact (get_ne (fun hh => by rw [hh, hz] at e; cases e)).trans (s.frz x p e)
  · exact get_ne fun hh => hx (.inr ((h2 x).2 hh))
theorem St.set (s : St Z (l ++ own b o :: m) h) : St Z (l ++ own b o' :: m) ⟨h.objs.set b o', h.next⟩ := s.pull.set0.push
theorem St.new (s : St Z l h) : St Z (own h.next o :: l) ⟨h.objs.set h.next o, h.next + 1⟩ := by
  have hk : ∀ x, x < h.next → (h.objs.set h.next o).get x = h.objs.get x := fun x hx => get_ne (Nat.ne_of_lt hx)
  refine ⟨fun x p e => (hk x (s.zlt x p e)).trans (s.frz x p e), fun x p e => Nat.lt_succ_of_lt (s.zlt x p e), fun x => x = h.next, fun x hx => ?_, ⟨fun _ => Iff.rfl, get_same⟩, ?_⟩
  · have hx : x = h.next := hx
    subst hx
    refine ⟨fun hz => ?_, Nat.lt_succ_self _⟩
    cases e : Z.objs.get h.next with
    | none => exact hz e
    | some p => exact Nat.lt_irrefl _ (s.zlt _ p e)
  · exact sep_move (h := h) (Nat.le_succ _) (fun x hx _ => hk x hx) (fun x hx hl => hx.resolve_right (Nat.ne_of_lt hl)) s.sep
theorem St.ne {c : Nat} {o2 : AObj} {k : List Asrt} (s : St Z (l ++ own b o :: (m ++ own c o2 :: k)) h) : b ≠ c := by
  obtain ⟨D, h1, ⟨h2, h3⟩, h4⟩ := s.pull.sep
  obtain ⟨E, h5, ⟨h6, _⟩, _⟩ := sep_perm (l := l ++ (m ++ own c o2 :: k)) (l' := own c o2 :: ((l ++ m) ++ k)) (by rw [← List.append_assoc]; exact List.perm_middle) h4
  intro hh
  subst hh
  exact (h5 b ((h6 b).2 rfl)).1 (.inr ((h2 b).2 rfl))
theorem St.freeze (s : St Z (own b o :: l) h) : ∃ Z', Sub Z Z' ∧ Z'.objs.get b = some o ∧ St Z' l h := by
  obtain ⟨D, h1, ⟨h2, h3⟩, h4⟩ := s.sep
  have hb := h1 b ((h2 b).2 rfl)
  have hz : Z.objs.get b = none := Classical.not_not.1 hb.1
  have hzz : Sub Z ⟨Z.objs.set b o, Nat.max Z.next (b + 1)⟩ := ⟨Nat.le_max_left _ _, fun x p e => (get_ne (fun hh => by rw [hh, hz] at e; cases e)).trans e⟩
  refine ⟨⟨Z.objs.set b o, Nat.max Z.next (b + 1)⟩, hzz, get_same, fun x p e => ?_, fun x p e => ?_, sep_mono hzz (sep_less (fun x hx => ?_) h4)⟩
  · by_cases hx : x = b
    · subst hx
      have e : (Z.objs.set x o).get x = some p := e
      rw [get_same] at e
      rw [h3, e]
    · have e : (Z.objs.set b o).get x = some p := e
      rw [get_ne hx] at e
      exact s.frz x p e
  · by_cases hx : x = b
    · rw [hx]; exact hb.2
    · have e : (Z.objs.set b o).get x = some p := e
      rw [get_ne hx] at e
      exact s.zlt x p e
  · by_cases hb' : x = b
    · exact .inr ((h2 x).2 hb')
    · have hx : (Z.objs.set b o).get x ≠ none := hx
      rw [get_ne hb'] at hx
      exact .inl hx
end
def subA (Z0 : Hp) : Asrt := ⟨fun Z D _ => (∀ x, ¬ D x) ∧ Sub Z0 Z, fun _ h => h, fun z h => ⟨h.1, h.2.trans z⟩⟩
section
variable {Z Z0 h : Hp} {l : List Asrt}
theorem st_sub : St Z (subA Z0 :: l) h ↔ Sub Z0 Z ∧ St Z l h := by
  constructor
  · rintro ⟨h1, h2, D, h3, ⟨h4, h5⟩, h6⟩
    exact ⟨h5, h1, h2, sep_less (fun _ hx => .inl hx) h6⟩
  · rintro ⟨q, h1, h2, h6⟩
    exact ⟨h1, h2, fun _ => False, fun _ hx => hx.elim, ⟨fun _ hx => hx, q⟩, sep_less (fun _ hx => hx.resolve_right id) h6⟩
end
open Go Go.Proofs.YtdhmljjpiainnaaGreatDoor.Ev
section
variable {Z h : Hp} {l : List Asrt} {b : Nat} {o : AObj}
theorem St.putAt (a a' : Asrt) (p : Option AObj) (ha : ∀ D, a.p Z D h → ∀ x, D x ↔ x = b) (ha' : ∀ D h', (∀ x, D x ↔ x = b) → h'.objs.get b = p → a'.p Z D h') (s : St Z (a :: l) h) : b < h.next ∧ St Z (a' :: l) ⟨h.objs.put b p, h.next⟩ := by
  obtain ⟨D, h1, h2, h4⟩ := s.sep
  have hd := ha D h2
  have hb := h1 b ((hd b).2 rfl)
  have hz : Z.objs.get b = none := Classical.not_not.1 hb.1
  refine ⟨hb.2, fun x q e => ?_, s.zlt, D, h1, ha' D _ hd (by rw [T.get_put, if_pos rfl]), sep_keep (h := h) (Nat.le_refl _) (fun x _ hx => ?_) h4⟩
  · refine Eq.trans ?_ (s.frz x q e)
    show (h.objs.put b p).get x = _
    rw [T.get_put, if_neg (fun hh => by rw [hh, hz] at e; cases e)]
  · show (h.objs.put b p).get x = _
    rw [T.get_put, if_neg fun hh => hx (.inr ((hd x).2 hh))]
theorem St.hide (s : St Z (own b o :: l) h) : St Z (hid b :: l) ⟨h.objs.put b none, h.next⟩ :=
  (St.putAt (own b o) (hid b) none (fun _ w => w.1) (fun _ _ hd hg => ⟨hd, hg⟩) s).2
theorem St.show (s : St Z (hid b :: l) h) : h.objs.get b = none ∧ b < h.next ∧ ∀ o, St Z (own b o :: l) ⟨h.objs.put b (some o), h.next⟩ := by
  obtain ⟨D, h1, ⟨h2, h3⟩, _⟩ := s.sep
  exact ⟨h3, (h1 b ((h2 b).2 rfl)).2, fun o => (St.putAt (hid b) (own b o) (some o) (fun _ w => w.1) (fun _ _ hd hg => ⟨hd, hg⟩) s).2⟩
theorem St.ext' {h' : Hp} (s : St Z l h) (hn : h.next = h'.next) (hg : ∀ b, h'.objs.get b = h.objs.get b) : St Z l h' :=
  ⟨fun b o e => (hg b).trans (s.frz b o e), fun b o e => hn ▸ s.zlt b o e, sep_keep (Nat.le_of_eq hn) (fun b _ _ => hg b) s.sep⟩
def ownL (xs : List (Nat × AObj)) : List Asrt := xs.map fun x => own x.1 x.2
def hidL (xs : List (Nat × AObj)) : List Asrt := xs.map fun x => hid x.1
def putsN : List (Nat × AObj) → T AObj → T AObj
  | [], t => t
  | x :: l, t => putsN l (t.put x.1 none)
def putsS : List (Nat × AObj) → T AObj → T AObj
  | [], t => t
  | x :: l, t => putsS l (t.put x.1 (some x.2))
theorem St.hideL : ∀ {xs : List (Nat × AObj)} {l : List Asrt} {h : Hp}, St Z (ownL xs ++ l) h → St Z (hidL xs ++ l) ⟨putsN xs h.objs, h.next⟩
  | [], _, _, s => s
  | x :: xs, l, h, s => by
    have s1 : St Z (hid x.1 :: (ownL xs ++ l)) ⟨h.objs.put x.1 none, h.next⟩ := St.hide s
    have s2 := St.hideL (xs := xs) (l := hid x.1 :: l) (s1.perm List.perm_middle.symm)
    exact s2.perm List.perm_middle
theorem St.showL : ∀ {xs : List (Nat × AObj)} {l : List Asrt} {h : Hp}, St Z (hidL xs ++ l) h → St Z (ownL xs ++ l) ⟨putsS xs h.objs, h.next⟩
  | [], _, _, s => s
  | x :: xs, l, h, s => by
    have s1 : St Z (own x.1 x.2 :: (hidL xs ++ l)) ⟨h.objs.put x.1 (some x.2), h.next⟩ := (St.show s).2.2 x.2
    have s2 := St.showL (xs := xs) (l := own x.1 x.2 :: l) (s1.perm List.perm_middle.symm)
    exact s2.perm List.perm_middle
end
open Go Go.Proofs.YtdhmljjpiainnaaGreatDoor.Ev
inductive MI where
  | blk (n : Nat) (cs : List XV) (e : TypeId)
  | obj (n : Nat) (o : AObj)
  | asr (k : Nat)
def MI.den (ρ : Va) : MI → Asrt
  | .blk n cs e => own (ρ.n n) (.cells (svL ρ cs) e)
  | .obj n o => own (ρ.n n) o
  | .asr k => ρ.a k
structure Sy where
  f : T XV
  mem : List MI
  asm : List (X × Bool) := []
  win : List (Nat × List XV) := []
  c : Cnt := {}
def opd (f : T XV) : Operand → Option XV
  | .tmp t => f.get t
  | .const v => some (ofLit v)
  | .global g => some (.lit (.pointer (some ⟨g, 0, none⟩)))
  | .func g => some (.lit (.func (.func g) #[] #[]))
def FM (ρ : Va) (f : T XV) (fr : Fr) : Prop := ∀ k v, f.get k = some v → fr.ev (.tmp k) = v.sv ρ
theorem FM.opd {ρ : Va} {f : T XV} {fr : Fr} (h : FM ρ f fr) {x : Operand} {v : XV} (hv : opd f x = some v) : fr.ev x = v.sv ρ := by
  cases x with
  | tmp t => exact h t v hv
  | const c =>
    obtain rfl := Option.some.inj hv
    exact (ofLit_sv ρ c).symm
  | global g =>
    obtain rfl := Option.some.inj hv
    rfl
  | func g =>
    obtain rfl := Option.some.inj hv
    rfl
def findAsm (e : X) : List (X × Bool) → Option Bool
  | [] => none
  | (a, b) :: l => bif a.same e then some b else findAsm e l
def X.dec (asm : List (X × Bool)) : X → Option Bool
  | .bl b => some b
  | .not a => (a.dec asm).map (!·)
  | e => findAsm e asm
def AsmOk (ρ : Va) (asm : List (X × Bool)) : Prop := ∀ x ∈ asm, (x.1.den ρ).b = x.2
theorem findAsm_ok {ρ : Va} {e : X} {b : Bool} : ∀ {l : List (X × Bool)}, AsmOk ρ l → findAsm e l = some b → (e.den ρ).b = b
  | (a, c) :: l, h, hf => by
    unfold findAsm at hf
    cases hs : a.same e with
    | true =>
      rw [hs, cond_true] at hf
      rw [← X.same_eq _ _ hs, ← Option.some.inj hf]
      exact h _ (List.mem_cons_self ..)
    | false =>
      rw [hs, cond_false] at hf
      exact findAsm_ok (fun x hx => h x (List.mem_cons_of_mem _ hx)) hf
theorem X.dec_ok {ρ : Va} {asm : List (X × Bool)} (h : AsmOk ρ asm) : ∀ (e : X) {b : Bool}, e.dec asm = some b → (e.den ρ).b = b := by
  intro e
  induction e with
  | bl c => intro b hb; exact Option.some.inj hb
  | not a ih =>
    intro b hb
    simp only [X.dec, Option.map_eq_some_iff] at hb
    obtain ⟨c, hc, rfl⟩ := hb
    simp only [X.den, ih hc]
  | _ => intro b hb; exact findAsm_ok h hb
def cutX (l : List XV) (off n : Nat) : Option (List XV) :=
  let r := (l.drop off).take n
  bif Nat.beq r.length n then some r else none
theorem cutX_sv {ρ : Va} {l vs : List XV} {off n : Nat} (h : cutX l off n = some vs) : cut (svL ρ l) off n = some (svL ρ vs) := by
  have h : (bif Nat.beq ((l.drop off).take n).length n then some ((l.drop off).take n) else none) = some vs := h
  unfold cut
  simp only [svL_drop, svL_take, svL_len]
  cases hb : Nat.beq ((l.drop off).take n).length n with
  | true => rw [hb, cond_true] at h; rw [cond_true, Option.some.inj h]
  | false => rw [hb] at h; cases h
def spliceX (l : List XV) (off : Nat) (vs : List XV) : Option (List XV) :=
  bif Nat.ble (off + vs.length) l.length && vs.all XV.one then some (l.take off ++ vs ++ l.drop (off + vs.length)) else none
theorem spliceX_sv {ρ : Va} {l vs r : List XV} {off : Nat} (h : spliceX l off vs = some r) : splice (svL ρ l) off (svL ρ vs) = some (svL ρ r) := by
  unfold spliceX at h
  cases hb : Nat.ble (off + vs.length) l.length && vs.all XV.one with
  | false => rw [hb] at h; cases h
  | true =>
    rw [hb, cond_true] at h
    rw [Bool.and_eq_true] at hb
    simp only [splice, svL_len, hb.1, XV.one_all ρ hb.2, Bool.and_self, cond_true, ← Option.some.inj h, svL_app, svL_take, svL_drop]
def fillX (place : Nat → Option (Nat × Nat)) (l : List XV) : List (Nat × XV) → Option (List XV)
  | [] => some l
  | (i, v) :: rest => match place i with
    | none => none
    | some (off, size) => bif Nat.beq v.cells.length size then (match spliceX l off v.cells with
      | some l' => fillX place l' rest
      | none => none) else none
theorem fillX_sv {ρ : Va} {place : Nat → Option (Nat × Nat)} : ∀ {ps : List (Nat × XV)} {l r : List XV}, fillX place l ps = some r → fillQ place (svL ρ l) (ps.map fun p => (p.1, p.2.sv ρ)) = some (svL ρ r)
  | [], l, r, h => by rw [fillX, Option.some.injEq] at h; rw [← h]; rfl
  | (i, v) :: ps, l, r, h => by
    simp only [fillX] at h
    simp only [List.map_cons, fillQ]
    split at h
    · cases h
    · rename_i off size hp
      cases hb : Nat.beq v.cells.length size with
      | false => rw [hb] at h; cases h
      | true =>
        rw [hb, cond_true] at h
        split at h
        · rename_i l' hs
          have e := spliceX_sv (ρ := ρ) hs
          rw [XV.cells_sv] at e
          simp only [hp, ← XV.cells_sv ρ v, svL_len, hb, cond_true]
          rw [XV.cells_sv, e]
          exact fillX_sv h
        · cases h
def partX (P : Program) (t : TypeId) (l : List XV) (off : Nat) : Option XV :=
  match tyAgg P t with
  | some true => match tySize P t with
    | some n => (cutX l off n).map .agg
    | none => none
  | some false => l[off]?
  | none => none
theorem partX_sv {ρ : Va} {P : Program} {t : TypeId} {l : List XV} {off : Nat} {v : XV} (h : partX P t l off = some v) : partQ P t (svL ρ l) off = some (v.sv ρ) := by
  unfold partX at h
  unfold partQ
  split at h
  · rename_i ht
    simp only [ht]
    split at h
    · rename_i n hn
      simp only [hn]
      rw [Option.map_eq_some_iff] at h
      obtain ⟨vs, hvs, rfl⟩ := h
      rw [cutX_sv hvs]
      rfl
    · cases h
  · rename_i ht
    simp only [ht, svL_get, h, Option.map_some]
  · cases h
def getBlk (n : Nat) : List MI → Option (List XV × TypeId)
  | [] => none
  | .blk m cs e :: l => bif Nat.beq n m then some (cs, e) else getBlk n l
  | _ :: l => getBlk n l
def getWin (i : Nat) : List (Nat × List XV) → Option (List XV)
  | [] => none
  | (j, cs) :: l => bif Nat.beq i j then some cs else getWin i l
structure Mem (Γ : Glob) (ρ : Va) (S : Sy) (h : Hp) : Prop where
  blk : ∀ n cs e, getBlk n S.mem = some (cs, e) → h.objs.get (ρ.n n) = some (.cells (svL ρ cs) e)
  win : ∀ i cs, getWin i S.win = some cs → PtrTo Γ h (ρ.r i) (svL ρ cs)
inductive LI where
  | no
  | blk (n off : Nat) (vs : List XV)
  | win (i k : Nat) (vs : List XV)
def LI.facts (ρ : Va) : LI → List Fact
  | .no => []
  | .blk n off vs => [.cells (ρ.n n) off (svL ρ vs)]
  | .win i k vs => pfacts (ρ.r i) k (svL ρ vs)
inductive QR where
  | ok (v : XV) (vc : List X) (li : LI)
  | fork (e : X)
  | no
def QR.of (v : Option XV) : QR := match v with
  | some v => .ok v [] .no
  | none => .no
theorem QR.of_ok {o : Option XV} {v : XV} {vc : List X} {li : LI} (h : QR.of o = .ok v vc li) : o = some v ∧ vc = [] ∧ li = .no := by
  cases o with
  | none => cases h
  | some x =>
    simp only [QR.of, QR.ok.injEq] at h
    exact ⟨by rw [h.1], h.2.1.symm, h.2.2.symm⟩
def qLoadB (P : Program) (t : TypeId) (cs : List XV) (off : Nat) (li : List XV → LI) : QR :=
  match tyAgg P t with
  | some true => match tySize P t with
    | some n => match cutX cs off n with
      | some vs => .ok (.agg vs) [] (li vs)
      | none => .no
    | none => .no
  | some false => match cs[off]? with
    | some v => .ok v [] (li [v])
    | none => .no
  | none => .no
def qWin (P : Program) (S : Sy) (t : TypeId) (i k : Nat) : QR := match getWin i S.win with
  | some cs => qLoadB P t cs k (.win i k)
  | none => .no
def qLoad (P : Program) (S : Sy) (t : TypeId) (a : Operand) : QR := match opd S.f a with
  | some (.ptr n off) => match getBlk n S.mem with
    | some x => qLoadB P t x.1 off (.blk n off)
    | none => .no
  | some (.raw i) => qWin P S t i 0
  | some (.pad i k) => qWin P S t i k
  | _ => .no
section
variable {P : Program} {Γ : Glob} {ρ : Va} {S : Sy} {h : Hp} {fr : Fr}
theorem qLoadB_sound {t : TypeId} {cs : List XV} {off : Nat} {li : List XV → LI} {v : XV} {vc : List X} {l : LI} {p : SV} (h1 : qLoadB P t cs off li = .ok v vc l)
    (hc : ∀ w, tyAgg P t = some false → cs[off]? = some w → loadQ P Γ h t p = some (w.sv ρ, (li [w]).facts ρ)) (hs : ∀ n vs, tyAgg P t = some true → tySize P t = some n → cutX cs off n = some vs → loadQ P Γ h t p = some (.agg (svL ρ vs), (li vs).facts ρ)) : loadQ P Γ h t p = some (v.sv ρ, l.facts ρ) := by
  unfold qLoadB at h1
  split at h1
  · rename_i ht
    split at h1
    · rename_i n hn
      split at h1
      · rename_i vs hvs
        simp only [QR.ok.injEq] at h1
        obtain ⟨rfl, _, rfl⟩ := h1
        exact hs n vs ht hn hvs
      · cases h1
    · cases h1
  · rename_i ht
    split at h1
    · rename_i w hw
      simp only [QR.ok.injEq] at h1
      obtain ⟨rfl, _, rfl⟩ := h1
      exact hc w ht hw
    · cases h1
  · cases h1
theorem qWin_sound {t : TypeId} {i k : Nat} {v : XV} {vc : List X} {l : LI} (hm : Mem Γ ρ S h) (h1 : qWin P S t i k = .ok v vc l) : loadQ P Γ h t (padd (ρ.r i) k) = some (v.sv ρ, l.facts ρ) := by
  unfold qWin at h1
  split at h1
  · rename_i cs hcs
    have w := hm.win i cs hcs
    exact qLoadB_sound h1 (fun x ht hx => px_cell ht w (by rw [svL_get, hx]; rfl)) fun n vs ht hn hvs => px_cut ht hn w (cutX_sv hvs)
  · cases h1
theorem qLoad_sound {t : TypeId} {a : Operand} {v : XV} {vc : List X} {l : LI} (hf : FM ρ S.f fr) (hm : Mem Γ ρ S h) (h1 : qLoad P S t a = .ok v vc l) : loadQ P Γ h t (fr.ev a) = some (v.sv ρ, l.facts ρ) := by
  unfold qLoad at h1
  split at h1
  · rename_i n off ha
    split at h1
    · rename_i x hx
      have hb := hm.blk n x.1 x.2 hx
      rw [hf.opd ha]
      refine qLoadB_sound h1 (fun w ht hw => ?_) fun m vs ht hn hvs => ?_
      · have e : cut (svL ρ x.1) off 1 = some [w.sv ρ] := cut_one (by rw [svL_get, hw]; rfl)
        simp only [XV.sv, loadQ, ht, readCells, knownCells, hb, Option.bind_some, e]
        rfl
      · simp only [XV.sv, loadQ, ht, hn, readCells, knownCells, hb, Option.bind_some, cutX_sv hvs]
        rfl
    · cases h1
  · rename_i i ha
    rw [hf.opd ha]
    have := qWin_sound hm h1
    have hw : getWin i S.win ≠ none := fun hh => by unfold qWin at h1; rw [hh] at h1; cases h1
    obtain ⟨cs, hcs⟩ := Option.ne_none_iff_exists'.1 hw
    rwa [padd_zero (hm.win i cs hcs)] at this
  · rename_i i k ha
    rw [hf.opd ha]
    exact qWin_sound hm h1
  · cases h1
def qAddr (S : Sy) (v : XV) (n : Nat) : Option XV := match v with
  | .ptr b off => some (.ptr b (off + n))
  | .raw i => match getWin i S.win with
    | some _ => some (.pad i n)
    | none => none
  | .pad i k => match getWin i S.win with
    | some _ => some (.pad i (k + n))
    | none => none
  | _ => none
theorem padd_addr {p : SV} {cs : List SV} (w : PtrTo Γ h p cs) (k n : Nat) : addrQ (padd p k) n = some (padd p (k + n)) := by
  refine w.cases (C := fun p => addrQ (padd p k) n = some (padd p (k + n))) (fun b o => ?_) fun g o => ?_
  · simp only [padd, addrQ, Nat.add_assoc]
  · simp only [padd, addrQ, Nat.add_assoc]
theorem qAddr_sound {v w : XV} {n : Nat} (hm : Mem Γ ρ S h) (h1 : qAddr S v n = some w) : addrQ (v.sv ρ) n = some (w.sv ρ) := by
  unfold qAddr at h1
  split at h1
  · obtain rfl := Option.some.inj h1; rfl
  · rename_i i
    split at h1
    · rename_i cs hcs
      obtain rfl := Option.some.inj h1
      have := padd_addr (hm.win i cs hcs) 0 n
      rw [padd_zero (hm.win i cs hcs), Nat.zero_add] at this
      exact this
    · cases h1
  · rename_i i k
    split at h1
    · rename_i cs hcs
      obtain rfl := Option.some.inj h1
      exact padd_addr (hm.win i cs hcs) k n
    · cases h1
  · cases h1
def qFieldAddr (P : Program) (S : Sy) (s : TypeId) (x : Operand) (i : Nat) : Option XV :=
  match tyU P s, opd S.f x with
  | some (.struct fields), some v => match fields[i]? with
    | some f => match tySize P f.type with
      | some (_ + 1) => qAddr S v f.offset
      | _ => none
    | none => none
  | _, _ => none
theorem qFieldAddr_sound {s : TypeId} {x : Operand} {i : Nat} {w : XV} (hf : FM ρ S.f fr) (hm : Mem Γ ρ S h) (h1 : qFieldAddr P S s x i = some w) : fieldAddrQ P s (fr.ev x) i = some (w.sv ρ) := by
  unfold qFieldAddr at h1
  split at h1
  · rename_i fields v hs hx
    split at h1
    · rename_i f hfi
      split at h1
      · rename_i n hn
        rw [hf.opd hx]
        simp only [fieldAddrQ, hs, hfi, hn]
        exact qAddr_sound hm h1
      · cases h1
    · cases h1
  · cases h1
def litNat : XV → Option Nat
  | .int _ (.z (.ofNat i)) => some i
  | _ => none
def qIndexAddr (P : Program) (S : Sy) (t : TypeId) (x i : Operand) : Option XV :=
  match tyU P t, opd S.f x, (opd S.f i).bind litNat with
  | some (.array len e), some v, some k => match tySize P e with
    | some s => bif Nat.blt k len then qAddr S v (k * s) else none
    | none => none
  | some (.slice e), some (.slice b off len _), some k => match tySize P e with
    | some s => bif Nat.blt k len then some (.ptr b (off + k * s)) else none
    | none => none
  | _, _, _ => none
theorem litNat_sv {v : XV} {k : Nat} (h1 : litNat v = some k) (len : Nat) (hk : Nat.blt k len = true) : idxQ (v.sv ρ) len = some k := by
  unfold litNat at h1
  split at h1
  · obtain rfl := Option.some.inj h1
    simp only [XV.sv, X.den, idxQ, hk, cond_true]
  · cases h1
theorem qIndexAddr_sound {t : TypeId} {x i : Operand} {w : XV} (hf : FM ρ S.f fr) (hm : Mem Γ ρ S h) (h1 : qIndexAddr P S t x i = some w) : indexAddrQ P t (fr.ev x) (fr.ev i) = some (w.sv ρ) := by
  unfold qIndexAddr at h1
  split at h1
  · rename_i len e v k ht hx hi
    split at h1
    · rename_i s hs
      obtain ⟨y, hy, hk⟩ := Option.bind_eq_some_iff.1 hi
      cases hb : Nat.blt k len with
      | false => rw [hb] at h1; cases h1
      | true =>
        rw [hb, cond_true] at h1
        rw [hf.opd hx, hf.opd hy]
        simp only [indexAddrQ, ht, hs, litNat_sv hk len hb]
        exact qAddr_sound hm h1
    · cases h1
  · rename_i e b off len cap k ht hx hi
    split at h1
    · rename_i s hs
      obtain ⟨y, hy, hk⟩ := Option.bind_eq_some_iff.1 hi
      cases hb : Nat.blt k len with
      | false => rw [hb] at h1; cases h1
      | true =>
        rw [hb, cond_true] at h1
        obtain rfl := Option.some.inj h1
        rw [hf.opd hx, hf.opd hy]
        simp only [XV.sv, indexAddrQ, ht, hs, litNat_sv hk len hb]
    · cases h1
  · cases h1
def qField (P : Program) (S : Sy) (t : TypeId) (x : Operand) (i : Nat) : Option XV :=
  match tyU P t, opd S.f x with
  | some (.struct fields), some (.agg l) => match fields[i]? with
    | some f => partX P f.type l f.offset
    | none => none
  | some (.struct fields), some (.lit (.agg cs)) => match fields[i]? with
    | some f => partX P f.type (cs.toList.map ofLit) f.offset
    | none => none
  | _, _ => none
theorem qField_sound {t : TypeId} {x : Operand} {i : Nat} {w : XV} (hf : FM ρ S.f fr) (h1 : qField P S t x i = some w) : quiet P Γ h fr.ev (.field t x i) = some (w.sv ρ, []) := by
  unfold qField at h1
  split at h1
  · rename_i fields l ht hx
    split at h1
    · rename_i f hfi
      simp only [quiet, ht, hfi, hf.opd hx, XV.sv]
      rw [partX_sv h1]
      rfl
    · cases h1
  · rename_i fields cs ht hx
    split at h1
    · rename_i f hfi
      simp only [quiet, ht, hfi, hf.opd hx, XV.sv]
      rw [← ofLit_map ρ, partX_sv h1]
      rfl
    · cases h1
  · cases h1
def qExtract (S : Sy) (x : Operand) (i : Nat) : Option XV := match opd S.f x with
  | some (.tup l) => l[i]?
  | some (.lit (.tuple vs)) => (vs[i]?).map ofLit
  | _ => none
theorem qExtract_sound {x : Operand} {i : Nat} {w : XV} (hf : FM ρ S.f fr) (h1 : qExtract S x i = some w) : quiet P Γ h fr.ev (.extract x i) = some (w.sv ρ, []) := by
  unfold qExtract at h1
  split at h1
  · rename_i l hx
    simp only [quiet, hf.opd hx, XV.sv, svL_get, h1, one, Option.map_some]
  · rename_i vs hx
    rw [Option.map_eq_some_iff] at h1
    obtain ⟨v, hv, rfl⟩ := h1
    simp only [quiet, hf.opd hx, XV.sv, hv, one, Option.map_some, ofLit_sv]
  · cases h1
def opdL (f : T XV) : List (Nat × Operand) → Option (List (Nat × XV))
  | [] => some []
  | (i, x) :: l => match opd f x, opdL f l with
    | some v, some r => some ((i, v) :: r)
    | _, _ => none
theorem opdL_sv (hf : FM ρ S.f fr) : ∀ {l : List (Nat × Operand)} {r : List (Nat × XV)}, opdL S.f l = some r → (l.map fun p => (p.1, fr.ev p.2)) = r.map fun p => (p.1, p.2.sv ρ)
  | [], r, h1 => by rw [opdL, Option.some.injEq] at h1; rw [← h1]; rfl
  | (i, x) :: l, r, h1 => by
    unfold opdL at h1
    split at h1
    · rename_i v r' hv hr
      obtain rfl := Option.some.inj h1
      rw [List.map_cons, List.map_cons, hf.opd hv, opdL_sv hf hr]
    · cases h1
def opds (f : T XV) : List Operand → Option (List XV)
  | [] => some []
  | x :: l => match opd f x, opds f l with
    | some v, some r => some (v :: r)
    | _, _ => none
theorem opds_sv (hf : FM ρ S.f fr) : ∀ {l : List Operand} {r : List XV}, opds S.f l = some r → l.map fr.ev = svL ρ r
  | [], r, h1 => by rw [opds, Option.some.injEq] at h1; rw [← h1]; rfl
  | x :: l, r, h1 => by
    unfold opds at h1
    split at h1
    · rename_i v r' hv hr
      obtain rfl := Option.some.inj h1
      rw [List.map_cons, svL, hf.opd hv, opds_sv hf hr]
    · cases h1
def qBuild (P : Program) (S : Sy) (t : TypeId) (parts : List (Nat × Operand)) : Option XV :=
  match tyZero P t, tyU P t, opdL S.f parts with
  | some z, some (.struct fields), some ps => match sizesQ P fields.toList with
    | some places => (fillX (places[·]?) (XV.cells (.lit z)) ps).map .agg
    | none => none
  | some z, some (.array _ e), some ps => match tySize P e with
    | some size => (fillX (fun i => some (i * size, size)) (XV.cells (.lit z)) ps).map .agg
    | none => none
  | _, _, _ => none
theorem qBuild_sound {t : TypeId} {parts : Array (Nat × Operand)} {w : XV} (hf : FM ρ S.f fr) (h1 : qBuild P S t parts.toList = some w) : quiet P Γ h fr.ev (.build t parts) = some (w.sv ρ, []) := by
  have hc : ∀ z, svL ρ (XV.cells (.lit z)) = SV.cells (.lit z) := fun z => XV.cells_sv ρ (.lit z)
  unfold qBuild at h1
  split at h1
  · rename_i z fields ps hz ht hps
    split at h1
    · rename_i places hpl
      rw [Option.map_eq_some_iff] at h1
      obtain ⟨l, hl, rfl⟩ := h1
      have := fillX_sv (ρ := ρ) hl
      rw [hc] at this
      simp only [quiet, buildQ, hz, ht, hpl, opdL_sv hf hps, this, Option.map_some, one]
      rfl
    · cases h1
  · rename_i z n e ps hz ht hps
    split at h1
    · rename_i size hsz
      rw [Option.map_eq_some_iff] at h1
      obtain ⟨l, hl, rfl⟩ := h1
      have := fillX_sv (ρ := ρ) hl
      rw [hc] at this
      simp only [quiet, buildQ, hz, ht, hsz, opdL_sv hf hps, this, Option.map_some, one]
      rfl
    · cases h1
  · cases h1
end
open Go Go.Proofs.YtdhmljjpiainnaaGreatDoor.Ev
def xlt : X → X → X
  | .z a, .z b => .bl (decide (a < b))
  | a, b => .lt a b
def xle : X → X → X
  | .z a, .z b => .bl (decide (a ≤ b))
  | a, b => .le a b
def xeq : X → X → X
  | .z a, .z b => .bl (decide (a = b))
  | a, b => .eq a b
def xnot : X → X
  | .bl b => .bl (!b)
  | .not a => a
  | a => .not a
def xteq : X → X → X
  | .tl a, .tl b => .bl (bytesEq a b)
  | a, b => .teq a b
def xbeq : X → X → X
  | .bl a, .bl b => .bl (a == b)
  | a, .bl true => a
  | .bl true, b => b
  | a, .bl false => xnot a
  | .bl false, b => xnot b
  | a, b => .beq a b
def xlen : X → X
  | .tl l => .z l.length
  | a => .len a
theorem xlt_b (ρ : Va) (a b : X) : ((xlt a b).den ρ).b = decide ((a.den ρ).i < (b.den ρ).i) := by
  unfold xlt
  split <;> rfl
theorem xle_b (ρ : Va) (a b : X) : ((xle a b).den ρ).b = decide ((a.den ρ).i ≤ (b.den ρ).i) := by
  unfold xle
  split <;> rfl
theorem xeq_b (ρ : Va) (a b : X) : ((xeq a b).den ρ).b = decide ((a.den ρ).i = (b.den ρ).i) := by
  unfold xeq
  split <;> rfl
theorem xnot_b (ρ : Va) (a : X) : ((xnot a).den ρ).b = !(a.den ρ).b := by
  unfold xnot
  split
  · rfl
  · simp only [X.den, Bool.not_not]
  · rfl
theorem bytesEq_iff : ∀ l m : List UInt8, bytesEq l m = decide (l = m) := fun l m => by
  cases h : bytesEq l m with
  | true => rw [decide_eq_true (bytesEq_eq h)]
  | false =>
    refine (decide_eq_false fun e => ?_).symm
    subst e
    have : ∀ l : List UInt8, bytesEq l l = true := fun l => by
      induction l with
      | nil => rfl
      | cons a l ih => simp only [bytesEq, ih, Bool.and_true]; exact beq_t rfl
    rw [this] at h
    cases h
theorem xteq_b (ρ : Va) (a b : X) : ((xteq a b).den ρ).b = decide ((a.den ρ).t = (b.den ρ).t) := by
  unfold xteq
  split
  · exact bytesEq_iff _ _
  · rfl
theorem xbeq_b (ρ : Va) (a b : X) : ((xbeq a b).den ρ).b = ((a.den ρ).b == (b.den ρ).b) := by
  unfold xbeq
  split
  · rfl
  · simp only [X.den]; cases (a.den ρ).b <;> rfl
  · simp only [X.den]; cases (b.den ρ).b <;> rfl
  · rw [xnot_b]; simp only [X.den]; cases (a.den ρ).b <;> rfl
  · rw [xnot_b]; simp only [X.den]; cases (b.den ρ).b <;> rfl
  · rfl
theorem xlen_i (ρ : Va) (a : X) : ((xlen a).den ρ).i = ((a.den ρ).t.length : Int) := by
  unfold xlen
  split <;> rfl
def inKind (k : IntKind) (e : X) : X := .and (.le (.z (lo k)) e) (.lt e (.z (hi k)))
def isU : IntKind → Bool
  | .u8 | .u16 | .u32 | .u64 => true
  | _ => false
def qNum (k : IntKind) (e : X) : QR := match e with
  | .z n => bif decide (lo k ≤ n) && decide (n < hi k) then .ok (.int k (.z n)) [] .no else .no
  | e => bif isU k then .ok (.int k (.wr k e)) [] .no else .ok (.int k e) [inKind k e] .no
def xadd : X → X → X
  | .z a, .z b => .z (a + b)
  | a, b => .add a b
def xsub : X → X → X
  | .z a, .z b => .z (a - b)
  | a, b => .sub a b
def xmul : X → X → X
  | .z a, .z b => .z (a * b)
  | a, b => .mul a b
theorem xadd_i (ρ : Va) (a b : X) : ((xadd a b).den ρ).i = (a.den ρ).i + (b.den ρ).i := by
  unfold xadd
  split <;> rfl
theorem xsub_i (ρ : Va) (a b : X) : ((xsub a b).den ρ).i = (a.den ρ).i - (b.den ρ).i := by
  unfold xsub
  split <;> rfl
theorem xmul_i (ρ : Va) (a b : X) : ((xmul a b).den ρ).i = (a.den ρ).i * (b.den ρ).i := by
  unfold xmul
  split <;> rfl
theorem qNum_ok {ρ : Va} {k : IntKind} {e : X} {v : XV} {vc : List X} {li : LI} (h1 : qNum k e = .ok v vc li) (hv : ∀ x ∈ vc, x.prop ρ) : v.sv ρ = .lit (.int k (k.wrap (e.den ρ).i)) ∧ li = .no := by
  unfold qNum at h1
  split at h1
  · rename_i n
    cases hb : decide (lo k ≤ n) && decide (n < hi k) with
    | false => rw [hb] at h1; cases h1
    | true =>
      rw [hb, cond_true] at h1
      simp only [Bool.and_eq_true, decide_eq_true_eq] at hb
      simp only [QR.ok.injEq] at h1
      obtain ⟨rfl, _, rfl⟩ := h1
      exact ⟨by simp only [XV.sv, X.den, wrap_in k hb.1 hb.2], rfl⟩
  · cases hu : isU k with
    | true =>
      rw [hu, cond_true] at h1
      simp only [QR.ok.injEq] at h1
      obtain ⟨rfl, _, rfl⟩ := h1
      exact ⟨rfl, rfl⟩
    | false =>
      rw [hu, cond_false] at h1
      simp only [QR.ok.injEq] at h1
      obtain ⟨rfl, rfl, rfl⟩ := h1
      have := hv _ (List.mem_singleton_self _)
      simp only [inKind, X.prop, X.den] at this
      exact ⟨by simp only [XV.sv, wrap_in k this.1 this.2], rfl⟩
def qInts (op : BinOp) (k : IntKind) (a b : X) : QR := match op with
  | .eql => .ok (.bool (xeq a b)) [] .no
  | .neq => .ok (.bool (xnot (xeq a b))) [] .no
  | .lss => .ok (.bool (xlt a b)) [] .no
  | .leq => .ok (.bool (xle a b)) [] .no
  | .gtr => .ok (.bool (xlt b a)) [] .no
  | .geq => .ok (.bool (xle b a)) [] .no
  | .add => qNum k (xadd a b)
  | .sub => qNum k (xsub a b)
  | .mul => qNum k (xmul a b)
  | .quo => match b with
    | .z n => bif decide (0 < n) then qNum k (.quo a b) else .no
    | _ => .no
  | .rem => match b with
    | .z n => bif decide (0 < n) then .ok (.int k (.rem a b)) [] .no else .no
    | _ => .no
  | _ => .no
def qTexts (op : BinOp) (a b : X) : QR := match op with
  | .eql => .ok (.bool (xteq a b)) [] .no
  | .neq => .ok (.bool (xnot (xteq a b))) [] .no
  | .add => .ok (.txt (.cat a b)) [.le (.add (.len a) (.len b)) (.z 9223372036854775807)] .no
  | _ => .no
def isNilOf (d : TypeDesc) : XV → Bool
  | .lit (.pointer none) => match d with
    | .pointer _ => true
    | _ => false
  | .lit (.map none) => match d with
    | .map _ _ => true
    | _ => false
  | .lit .nilFunc => match d with
    | .func _ _ _ => true
    | _ => false
  | .lit (.slice none _ _) => match d with
    | .slice _ => true
    | _ => false
  | _ => false
def notNil (S : Sy) (left : Bool) (d : TypeDesc) : XV → Bool
  | .ptr _ _ => match d with
    | .pointer _ => true
    | _ => false
  | .raw i => match d with
    | .pointer _ => (getWin i S.win).isSome
    | _ => false
  | .map _ => match d with
    | .map _ _ => true
    | _ => false
  | .fn _ _ _ => match d with
    | .func _ _ _ => left
    | _ => false
  | .slice _ _ _ _ => match d with
    | .slice _ => true
    | _ => false
  | _ => false
def closedV : XV → Option Value
  | .int k (.z n) => some (.int k n)
  | .bool (.bl b) => some (.bool b)
  | .txt (.tl l) => some (.string ⟨⟨l⟩⟩)
  | .lit v => some v
  | _ => none
theorem closedV_sv {ρ : Va} {v : XV} {x : Value} (h : closedV v = some x) : v.sv ρ = .lit x := by
  unfold closedV at h
  split at h <;> first | (cases h; done) | (obtain rfl := Option.some.inj h; rfl)
def ofSV : SV → Option XV
  | .lit v => some (ofLit v)
  | _ => none
theorem ofSV_sv {ρ : Va} {s : SV} {v : XV} (h : ofSV s = some v) : v.sv ρ = s := by
  unfold ofSV at h
  split at h
  · obtain rfl := Option.some.inj h; exact ofLit_sv ρ _
  · cases h
def qRefs (P : Program) (S : Sy) (op : BinOp) (t : TypeId) (xo yo : Operand) (x y : XV) : QR :=
  match closedV x, closedV y with
  | some a, some b => .of ((binQ P op t xo yo (.lit a) (.lit b)).bind ofSV)
  | _, _ => match tyU P t with
    | some d => bif (notNil S true d x && isNilOf d y) || (isNilOf d x && notNil S false d y) then (match op with
      | .eql => .ok (.bool (.bl false)) [] .no
      | .neq => .ok (.bool (.bl true)) [] .no
      | _ => .no) else .no
    | none => .no
def qBin (P : Program) (S : Sy) (op : BinOp) (t : TypeId) (xo yo : Operand) : QR :=
  match opd S.f xo, opd S.f yo with
  | some (.int k a), some (.int k' b) => bif decide (k = k') then qInts op k a b else .no
  | some (.txt a), some (.txt b) => qTexts op a b
  | some (.bool a), some (.bool b) => match tyU P t, op with
    | some .bool, .eql => .ok (.bool (xbeq a b)) [] .no
    | some .bool, .neq => .ok (.bool (xnot (xbeq a b))) [] .no
    | _, _ => .no
  | some x, some y => qRefs P S op t xo yo x y
  | _, _ => .no
section
variable {P : Program} {Γ : Glob} {ρ : Va} {S : Sy} {h : Hp} {fr : Fr}
theorem binQ_lits {op : BinOp} {t : TypeId} {xo yo : Operand} {a b v : Value} (hg : pureRun P (eqGuard op t xo yo a b) = some ()) (hb : pureRun P (binOp op t a b) = some v) : binQ P op t xo yo (.lit a) (.lit b) = some (.lit v) := by
  have e : pureRun P (do eqGuard op t xo yo a b; binOp op t a b) = some v := by
    show pureRun P (eqGuard op t xo yo a b >>= fun _ => binOp op t a b) = _
    rw [run_bind, hg]
    exact hb
  simp only [binQ, SV.toLit, e, Option.map_some]
theorem guard_int {op : BinOp} {t : TypeId} {xo yo : Operand} {k k' : IntKind} {a b : Int} : pureRun P (eqGuard op t xo yo (.int k a) (.int k' b)) = some () := by cases op <;> rfl
theorem guard_txt {op : BinOp} {t : TypeId} {xo yo : Operand} {a b : ByteArray} : pureRun P (eqGuard op t xo yo (.string a) (.string b)) = some () := by cases op <;> rfl
theorem guard_bool {op : BinOp} {t : TypeId} {xo yo : Operand} {a b : Bool} : pureRun P (eqGuard op t xo yo (.bool a) (.bool b)) = some () := by cases op <;> rfl
theorem int_cmp {op : BinOp} {t : TypeId} {xo yo : Operand} {k : IntKind} {a b : Int} {r : Bool} (h1 : pureRun P (binOp op t (.int k a) (.int k b)) = some (.bool r)) {e : X} (he : (e.den ρ).b = r) : binQ P op t xo yo (.lit (.int k a)) (.lit (.int k b)) = some ((XV.bool e).sv ρ) := by
  rw [binQ_lits guard_int h1]
  simp only [XV.sv, he]
theorem int_op {op : BinOp} {t : TypeId} {k : IntKind} {a b : Int} {r : Option Value} (h1 : pureRun P (if k ≠ k then stuck "BinOp: operands of different kinds" else
    match op with
    | .add | .sub | .mul => Op.intArith op k a b
    | .quo | .rem => Op.intDiv op k a b
    | .and | .or | .xor | .andNot => Op.intBits op k a b
    | _ => Op.intCmp op a b) = r) (hs : op ≠ .shl ∧ op ≠ .shr) : pureRun P (binOp op t (.int k a) (.int k b)) = r := by
  rw [← h1]
  cases op <;> first | rfl | exact absurd rfl hs.1 | exact absurd rfl hs.2
theorem qInts_sound {op : BinOp} {t : TypeId} {xo yo : Operand} {k : IntKind} {a b : X} {v : XV} {vc : List X} {li : LI} (h1 : qInts op k a b = .ok v vc li) (hv : ∀ x ∈ vc, x.prop ρ) :
    binQ P op t xo yo (.lit (.int k (a.den ρ).i)) (.lit (.int k (b.den ρ).i)) = some (v.sv ρ) ∧ li = .no := by
  have num : ∀ (e : X) (z : Int), qNum k e = .ok v vc li → (e.den ρ).i = z → pureRun P (binOp op t (.int k (a.den ρ).i) (.int k (b.den ρ).i)) = some (.int k (k.wrap z)) → binQ P op t xo yo (.lit (.int k (a.den ρ).i)) (.lit (.int k (b.den ρ).i)) = some (v.sv ρ) ∧ li = .no := fun e z hq he hr => by
    obtain ⟨e1, e2⟩ := qNum_ok hq hv
    rw [binQ_lits guard_int hr, e1, he]
    exact ⟨rfl, e2⟩
  have cmp : ∀ (e : X) (r : Bool), QR.ok (.bool e) [] .no = .ok v vc li → (e.den ρ).b = r → pureRun P (binOp op t (.int k (a.den ρ).i) (.int k (b.den ρ).i)) = some (.bool r) → binQ P op t xo yo (.lit (.int k (a.den ρ).i)) (.lit (.int k (b.den ρ).i)) = some (v.sv ρ) ∧ li = .no := fun e r hq he hr => by
    simp only [QR.ok.injEq] at hq
    obtain ⟨rfl, _, rfl⟩ := hq
    exact ⟨int_cmp hr he, rfl⟩
  have red : ∀ {r : Option Value}, (op ≠ .shl ∧ op ≠ .shr) → pureRun P (match op with
    | .add | .sub | .mul => Op.intArith op k (a.den ρ).i (b.den ρ).i
    | .quo | .rem => Op.intDiv op k (a.den ρ).i (b.den ρ).i
    | .and | .or | .xor | .andNot => Op.intBits op k (a.den ρ).i (b.den ρ).i
    | _ => Op.intCmp op (a.den ρ).i (b.den ρ).i) = r → pureRun P (binOp op t (.int k (a.den ρ).i) (.int k (b.den ρ).i)) = r := fun hs hr => int_op (by rw [if_neg (fun hh => hh rfl)]; exact hr) hs
  have ns : ∀ {o : BinOp}, o = .eql ∨ o = .neq ∨ o = .lss ∨ o = .leq ∨ o = .gtr ∨ o = .geq ∨ o = .add ∨ o = .sub ∨ o = .mul ∨ o = .quo ∨ o = .rem → o ≠ .shl ∧ o ≠ .shr := fun {o} ho => by
    rcases ho with rfl | rfl | rfl | rfl | rfl | rfl | rfl | rfl | rfl | rfl | rfl <;> exact ⟨fun e => (by cases e), fun e => by cases e⟩
  unfold qInts at h1
  split at h1
  · exact cmp _ _ h1 (xeq_b ρ a b) (red (ns (by simp)) (by show some (Value.bool (_ == _)) = _; rw [dec_eq]))
  · exact cmp _ _ h1 ((xnot_b ρ _).trans (congrArg _ (xeq_b ρ a b))) (red (ns (by simp)) (by show some (Value.bool (!(_ == _))) = _; rw [dec_eq]))
  · exact cmp _ _ h1 (xlt_b ρ a b) (red (ns (by simp)) rfl)
  · exact cmp _ _ h1 (xle_b ρ a b) (red (ns (by simp)) rfl)
  · exact cmp _ _ h1 (xlt_b ρ b a) (red (ns (by simp)) rfl)
  · exact cmp _ _ h1 (xle_b ρ b a) (red (ns (by simp)) rfl)
  · exact num _ _ h1 (xadd_i ρ a b) (red (ns (by simp)) rfl)
  · exact num _ _ h1 (xsub_i ρ a b) (red (ns (by simp)) rfl)
  · exact num _ _ h1 (xmul_i ρ a b) (red (ns (by simp)) rfl)
  · split at h1
    · rename_i n
      cases hb : decide (0 < n) with
      | false => rw [hb] at h1; cases h1
      | true =>
        rw [hb, cond_true] at h1
        have hn : n ≠ 0 := fun e => by subst e; cases hb
        exact num _ _ h1 rfl (red (ns (by simp)) (by show pureRun P (Op.intDiv .quo k (a.den ρ).i n) = _; simp only [Op.intDiv, if_neg hn]; rfl))
    · cases h1
  · split at h1
    · rename_i n
      cases hb : decide (0 < n) with
      | false => rw [hb] at h1; cases h1
      | true =>
        rw [hb, cond_true] at h1
        have hn : n ≠ 0 := fun e => by subst e; cases hb
        simp only [QR.ok.injEq] at h1
        obtain ⟨rfl, _, rfl⟩ := h1
        refine ⟨?_, rfl⟩
        rw [binQ_lits guard_int (red (ns (by simp)) (by show pureRun P (Op.intDiv .rem k (a.den ρ).i n) = _; simp only [Op.intDiv, if_neg hn]; rfl))]
        rfl
    · cases h1
  · cases h1
theorem qTexts_sound {op : BinOp} {t : TypeId} {xo yo : Operand} {a b : X} {v : XV} {vc : List X} {li : LI} (h1 : qTexts op a b = .ok v vc li) (hv : ∀ x ∈ vc, x.prop ρ) :
    binQ P op t xo yo (.lit (.string ⟨⟨(a.den ρ).t⟩⟩)) (.lit (.string ⟨⟨(b.den ρ).t⟩⟩)) = some (v.sv ρ) ∧ li = .no := by
  have teq : ∀ l m : List UInt8, (l == m) = decide (l = m) := fun l m => by by_cases h : l = m <;> simp [h]
  unfold qTexts at h1
  split at h1
  · simp only [QR.ok.injEq] at h1
    obtain ⟨rfl, _, rfl⟩ := h1
    refine ⟨?_, rfl⟩
    rw [binQ_lits guard_txt (v := .bool ((⟨⟨(a.den ρ).t⟩⟩ : ByteArray).toList == (⟨⟨(b.den ρ).t⟩⟩ : ByteArray).toList)) rfl, ba_toList, ba_toList, teq]
    simp only [XV.sv, xteq_b]
  · simp only [QR.ok.injEq] at h1
    obtain ⟨rfl, _, rfl⟩ := h1
    refine ⟨?_, rfl⟩
    rw [binQ_lits guard_txt (v := .bool (!((⟨⟨(a.den ρ).t⟩⟩ : ByteArray).toList == (⟨⟨(b.den ρ).t⟩⟩ : ByteArray).toList))) rfl, ba_toList, ba_toList, teq]
    simp only [XV.sv, xnot_b, xteq_b]
  · simp only [QR.ok.injEq] at h1
    obtain ⟨rfl, rfl, rfl⟩ := h1
    have hle := hv _ (List.mem_singleton_self _)
    simp only [X.prop, X.den] at hle
    refine ⟨?_, rfl⟩
    have hs : ∀ l : List UInt8, (⟨⟨l⟩⟩ : ByteArray).size = l.length := fun _ => rfl
    have hm : IntKind.i64.max = 9223372036854775807 := by decide
    rw [binQ_lits guard_txt (v := .string ⟨⟨(a.den ρ).t ++ (b.den ρ).t⟩⟩)]
    · rfl
    · show pureRun P (if (((⟨⟨(a.den ρ).t⟩⟩ : ByteArray).size + (⟨⟨(b.den ρ).t⟩⟩ : ByteArray).size : Nat) : Int) > IntKind.i64.max then unsupported (.resourceLimit "string concatenation: a sum of the lengths that is no int") else pure (Value.string (⟨⟨(a.den ρ).t⟩⟩ ++ ⟨⟨(b.den ρ).t⟩⟩))) = _
      rw [if_neg (by rw [hs, hs, hm]; omega)]
      show some (Value.string _) = _
      congr 2
  · cases h1
theorem eq_run {t : TypeId} {d : TypeDesc} {x y : Value} {b : Bool} (_ht : tyU P t = some d) (h1 : pureRun P (Op.equal t x y) = some b) : pureRun P (do pure (Value.bool (← Op.equal t x y)) : Sem Value) = some (.bool b) ∧ pureRun P (do pure (Value.bool (!(← Op.equal t x y))) : Sem Value) = some (.bool !b) := by
  clear _ht
  constructor
  · show pureRun P (Op.equal t x y >>= fun r => pure (Value.bool r)) = _
    rw [run_bind, h1]; rfl
  · show pureRun P (Op.equal t x y >>= fun r => pure (Value.bool !r)) = _
    rw [run_bind, h1]; rfl
theorem equal_und {t : TypeId} {d : TypeDesc} {x y : Value} {r : Option Bool} (ht : tyU P t = some d) (h1 : pureRun P (match d, x, y with
    | .bool, .bool a, .bool b => (pure (a == b) : Sem Bool)
    | .pointer _, .pointer _, .pointer none => pure false
    | .pointer _, .pointer none, .pointer b => pure b.isNone
    | _, _, _ => stuck "") = r) (hd : (d = .bool ∧ ∃ a b, x = .bool a ∧ y = .bool b) ∨ (∃ e, d = .pointer e ∧ ((∃ a, x = .pointer (some a) ∧ y = .pointer none) ∨ ∃ a, x = .pointer none ∧ y = .pointer (some a)))) : pureRun P (Op.equal t x y) = r := by
  show pureRun P (underlying t >>= fun d => _) = _
  rw [run_und ht]
  rcases hd with ⟨rfl, a, b, rfl, rfl⟩ | ⟨e, rfl, ⟨a, rfl, rfl⟩ | ⟨a, rfl, rfl⟩⟩
  · exact h1
  · exact h1
  · exact h1
theorem bools_sound {op : BinOp} {t : TypeId} {xo yo : Operand} {a b : Bool} (ht : tyU P t = some .bool) (ho : op = .eql ∨ op = .neq) : binQ P op t xo yo (.lit (.bool a)) (.lit (.bool b)) = some (.lit (.bool (if op = .eql then a == b else !(a == b)))) := by
  have he : pureRun P (Op.equal t (.bool a) (.bool b)) = some (a == b) := equal_und ht rfl (.inl ⟨rfl, a, b, rfl, rfl⟩)
  rcases ho with rfl | rfl
  · rw [binQ_lits guard_bool (eq_run ht he).1]; rfl
  · rw [binQ_lits guard_bool (eq_run ht he).2]; rfl
theorem refs_sound {op : BinOp} {t : TypeId} {d : TypeDesc} {xo yo : Operand} {x y : XV} (hm : Mem Γ ρ S h) (ht : tyU P t = some d) (hx : ((notNil S true d x && isNilOf d y) || (isNilOf d x && notNil S false d y)) = true) (ho : op = .eql ∨ op = .neq) :
    binQ P op t xo yo (x.sv ρ) (y.sv ρ) = some (.lit (.bool (if op = .eql then false else true))) := by
  have fin : ∀ sx sy : SV, (sx.toLit = none ∨ sy.toLit = none) → refEq P t sx sy = some false → binQ P op t xo yo sx sy = some (.lit (.bool (if op = .eql then false else true))) := fun sx sy hn hr => by
    rcases ho with rfl | rfl
    all_goals
      unfold binQ
      rcases hn with hn | hn
      · rw [hn]; simp only [hr, Option.map_some]; rfl
      · rw [hn]; cases sx.toLit <;> simp only [hr, Option.map_some] <;> rfl
  have glob : ∀ (g o : Nat) (e : TypeId), d = .pointer e → binQ P op t xo yo (.lit (.pointer (some ⟨g, o, none⟩))) (.lit (.pointer none)) = some (.lit (.bool (if op = .eql then false else true))) ∧ binQ P op t xo yo (.lit (.pointer none)) (.lit (.pointer (some ⟨g, o, none⟩))) = some (.lit (.bool (if op = .eql then false else true))) := fun g o e hd => by
    subst hd
    have h1 : pureRun P (Op.equal t (.pointer (some ⟨g, o, none⟩)) (.pointer none)) = some false := equal_und ht rfl (.inr ⟨e, rfl, .inl ⟨_, rfl, rfl⟩⟩)
    have h2 : pureRun P (Op.equal t (.pointer none) (.pointer (some ⟨g, o, none⟩))) = some false := equal_und ht rfl (.inr ⟨e, rfl, .inr ⟨_, rfl, rfl⟩⟩)
    rcases ho with rfl | rfl
    · exact ⟨binQ_lits rfl (eq_run ht h1).1, binQ_lits rfl (eq_run ht h2).1⟩
    · exact ⟨binQ_lits rfl (eq_run ht h1).2, binQ_lits rfl (eq_run ht h2).2⟩
  have key : ∀ (lf : Bool) (u w : XV), notNil S lf d u = true → isNilOf d w = true → (lf = true → binQ P op t xo yo (u.sv ρ) (w.sv ρ) = some (.lit (.bool (if op = .eql then false else true)))) ∧ (lf = false → binQ P op t xo yo (w.sv ρ) (u.sv ρ) = some (.lit (.bool (if op = .eql then false else true)))) := fun lf u w hu hw => by
    unfold notNil at hu
    split at hu
    · split at hu
      · rename_i e
        unfold isNilOf at hw
        split at hw <;> first | (cases hw; done) | skip
        exact ⟨fun _ => fin _ _ (.inl rfl) (by simp only [XV.sv, refEq, ht]), fun _ => fin _ _ (.inr rfl) (by simp only [XV.sv, refEq, ht])⟩
      · cases hu
    · rename_i i
      split at hu
      · rename_i e
        obtain ⟨cs, hcs⟩ := Option.isSome_iff_exists.1 hu
        unfold isNilOf at hw
        split at hw <;> first | (cases hw; done) | skip
        refine (hm.win i cs hcs).cases (C := fun p => (lf = true → binQ P op t xo yo p _ = some _) ∧ (lf = false → binQ P op t xo yo _ p = some _)) (fun b o => ?_) fun g o => ?_
        · exact ⟨fun _ => fin _ _ (.inl rfl) (by simp only [XV.sv, refEq, ht]), fun _ => fin _ _ (.inr rfl) (by simp only [XV.sv, refEq, ht])⟩
        · exact ⟨fun _ => (glob g o e rfl).1, fun _ => (glob g o e rfl).2⟩
      · cases hu
    · split at hu
      · unfold isNilOf at hw
        split at hw <;> first | (cases hw; done) | skip
        exact ⟨fun _ => fin _ _ (.inl rfl) (by simp only [XV.sv, refEq, ht]), fun _ => fin _ _ (.inr rfl) (by simp only [XV.sv, refEq, ht])⟩
      · cases hu
    · split at hu
      · unfold isNilOf at hw
        split at hw <;> first | (cases hw; done) | skip
        exact ⟨fun _ => fin _ _ (.inl rfl) (by simp only [XV.sv, refEq, ht]), fun e => by rw [e] at hu; cases hu⟩
      · cases hu
    · split at hu
      · unfold isNilOf at hw
        split at hw <;> first | (cases hw; done) | skip
        exact ⟨fun _ => fin _ _ (.inl rfl) (by simp only [XV.sv, refEq, ht]), fun _ => fin _ _ (.inr rfl) (by simp only [XV.sv, refEq, ht])⟩
      · cases hu
    · cases hu
  rcases Bool.or_eq_true _ _ ▸ hx with hx | hx
  · rw [Bool.and_eq_true] at hx
    exact (key true _ _ hx.1 hx.2).1 rfl
  · rw [Bool.and_eq_true] at hx
    exact (key false _ _ hx.2 hx.1).2 rfl
theorem qRefs_sound {op : BinOp} {t : TypeId} {xo yo : Operand} {x y v : XV} {vc : List X} {li : LI} (hm : Mem Γ ρ S h) (h1 : qRefs P S op t xo yo x y = .ok v vc li) : binQ P op t xo yo (x.sv ρ) (y.sv ρ) = some (v.sv ρ) ∧ li = .no := by
  unfold qRefs at h1
  split at h1
  · rename_i a b ha hb
    obtain ⟨e, _, rfl⟩ := QR.of_ok h1
    obtain ⟨s, hs, hv⟩ := Option.bind_eq_some_iff.1 e
    rw [closedV_sv ha, closedV_sv hb, hs, ofSV_sv hv]
    exact ⟨rfl, rfl⟩
  · split at h1
    · rename_i d ht
      cases hb : (notNil S true d x && isNilOf d y) || (isNilOf d x && notNil S false d y) with
      | false => rw [hb] at h1; cases h1
      | true =>
        rw [hb, cond_true] at h1
        split at h1
        · simp only [QR.ok.injEq] at h1
          obtain ⟨rfl, _, rfl⟩ := h1
          exact ⟨refs_sound hm ht hb (.inl rfl), rfl⟩
        · simp only [QR.ok.injEq] at h1
          obtain ⟨rfl, _, rfl⟩ := h1
          exact ⟨refs_sound hm ht hb (.inr rfl), rfl⟩
        · cases h1
    · cases h1
theorem qBin_sound {op : BinOp} {t : TypeId} {xo yo : Operand} {v : XV} {vc : List X} {li : LI} (hf : FM ρ S.f fr) (hm : Mem Γ ρ S h) (h1 : qBin P S op t xo yo = .ok v vc li) (hv : ∀ x ∈ vc, x.prop ρ) : binQ P op t xo yo (fr.ev xo) (fr.ev yo) = some (v.sv ρ) ∧ li = .no := by
  unfold qBin at h1
  split at h1
  · rename_i k a k' b hx hy
    cases hk : decide (k = k') with
    | false => rw [hk] at h1; cases h1
    | true =>
      rw [hk, cond_true] at h1
      obtain rfl := of_decide_eq_true hk
      rw [hf.opd hx, hf.opd hy]
      exact qInts_sound h1 hv
  · rename_i a b hx hy
    rw [hf.opd hx, hf.opd hy]
    exact qTexts_sound h1 hv
  · rename_i a b hx hy
    rw [hf.opd hx, hf.opd hy]
    split at h1
    · rename_i ht
      simp only [QR.ok.injEq] at h1
      obtain ⟨rfl, _, rfl⟩ := h1
      refine ⟨?_, rfl⟩
      simp only [XV.sv, xbeq_b]
      exact bools_sound ht (.inl rfl)
    · rename_i ht
      simp only [QR.ok.injEq] at h1
      obtain ⟨rfl, _, rfl⟩ := h1
      refine ⟨?_, rfl⟩
      simp only [XV.sv, xnot_b, xbeq_b]
      exact bools_sound ht (.inr rfl)
    · cases h1
  · rename_i x y _ _ _ hx hy
    rw [hf.opd hx, hf.opd hy]
    exact qRefs_sound hm h1
  · cases h1
end
open Go Go.Proofs.YtdhmljjpiainnaaGreatDoor.Ev
def xand : X → X → X
  | .bl true, b => b
  | a, .bl true => a
  | a, b => .and a b
theorem xand_b (ρ : Va) (a b : X) : ((xand a b).den ρ).b = ((a.den ρ).b && (b.den ρ).b) := by
  unfold xand
  split
  · rfl
  · simp only [X.den, Bool.and_true]
  · rfl
def partsX : XV → Option (List XV)
  | .agg l => some l
  | .lit (.agg cs) => some (cs.toList.map ofLit)
  | _ => none
def eqF (P : Program) (rec : TypeId → XV → XV → Option X) (xs ys : List XV) : List Field → Option X
  | [] => some (.bl true)
  | f :: fs => bif f.name == "_" then none else match partX P f.type xs f.offset, partX P f.type ys f.offset with
    | some a, some b => match rec f.type a b, eqF P rec xs ys fs with
      | some e, some r => some (xand e r)
      | _, _ => none
    | _, _ => none
def eqT (P : Program) : Nat → TypeId → XV → XV → Option X
  | 0, _, _, _ => none
  | d + 1, t, x, y => match P.underlying t, x, y with
    | some .bool, .bool a, .bool b => some (xbeq a b)
    | some (.int _), .int k a, .int k' b => bif decide (k = k') then some (xeq a b) else none
    | some .string, .txt a, .txt b => some (xteq a b)
    | some (.struct fs), x, y => match partsX x, partsX y with
      | some xs, some ys => bif P.stoodInHeld t then none else eqF P (eqT P d) xs ys fs.toList
      | _, _ => none
    | _, _, _ => none
section
variable {P : Program} {ρ : Va}
theorem partsX_lit {x : XV} {l : List XV} {a : Value} (hp : partsX x = some l) (ha : (x.sv ρ).toLit = some a) : ∃ vs, a = .agg vs.toArray ∧ SV.toLitL (svL ρ l) = some vs := by
  unfold partsX at hp
  split at hp
  · obtain rfl := Option.some.inj hp
    simp only [XV.sv, SV.toLit] at ha
    split at ha
    · rename_i vs hvs
      exact ⟨vs, (Option.some.inj ha).symm, hvs⟩
    · cases ha
  · rename_i cs
    obtain rfl := Option.some.inj hp
    simp only [XV.sv, SV.toLit, Option.some.injEq] at ha
    subst ha
    refine ⟨cs.toList, by simp, ?_⟩
    rw [ofLit_map]
    generalize cs.toList = l
    induction l with
    | nil => rfl
    | cons v l ih => simp only [List.map_cons, SV.toLitL, SV.toLit, ih]
  · cases hp
theorem toLitL_get : ∀ {l : List SV} {vs : List Value} {i : Nat} {v : SV}, SV.toLitL l = some vs → l[i]? = some v → ∃ a, v.toLit = some a ∧ vs[i]? = some a
  | [], vs, i, v, _, hi => by simp at hi
  | x :: l, vs, i, v, h, hi => by
    simp only [SV.toLitL] at h
    split at h
    · rename_i a as ha has
      obtain rfl := Option.some.inj h
      cases i with
      | zero =>
        obtain rfl : x = v := by simpa using hi
        exact ⟨a, ha, rfl⟩
      | succ i =>
        obtain ⟨c, h1, h2⟩ := toLitL_get (i := i) has (by simpa using hi)
        exact ⟨c, h1, by simpa using h2⟩
    · cases h
theorem toLitL_drop : ∀ {l : List SV} {vs : List Value} (n : Nat), SV.toLitL l = some vs → SV.toLitL (l.drop n) = some (vs.drop n)
  | l, vs, 0, h => h
  | [], vs, n + 1, h => by
    simp only [SV.toLitL, Option.some.injEq] at h
    rw [← h]; rfl
  | x :: l, vs, n + 1, h => by
    simp only [SV.toLitL] at h
    split at h
    · rename_i a as ha has
      obtain rfl := Option.some.inj h
      exact toLitL_drop n has
    · cases h
theorem toLitL_take : ∀ {l : List SV} {vs : List Value} (n : Nat), SV.toLitL l = some vs → SV.toLitL (l.take n) = some (vs.take n)
  | l, vs, 0, h => by simp [SV.toLitL]
  | [], vs, n + 1, h => by
    simp only [SV.toLitL, Option.some.injEq] at h
    rw [← h]; rfl
  | x :: l, vs, n + 1, h => by
    simp only [SV.toLitL] at h
    split at h
    · rename_i a as ha has
      obtain rfl := Option.some.inj h
      simp only [List.take_succ_cons, SV.toLitL, ha, toLitL_take n has]
    · cases h
theorem isAgg_run {t : TypeId} {b : Bool} (h : tyAgg P t = some b) : pureRun P (isAgg t) = some b := by
  unfold tyAgg at h
  cases hu : P.underlying t with
  | none => rw [hu] at h; cases h
  | some d =>
    rw [hu] at h
    show pureRun P (underlying t >>= fun d => _) = _
    rw [run_und hu]
    cases d <;> first | (obtain rfl := Option.some.inj h; rfl)
theorem sizeOf_run {t : TypeId} {n : Nat} (h : tySize P t = some n) : pureRun P (sizeOf t) = some n := by
  unfold tySize at h
  rw [Option.map_eq_some_iff] at h
  obtain ⟨i, hi, rfl⟩ := h
  have : pureRun P (typeInfo t) = some i := by
    show pureRun P (match P.info? t with
      | some i => (pure i : Sem TypeInfo)
      | none => stuck "no such type") = _
    rw [hi]
    rfl
  show pureRun P (typeInfo t >>= fun i => pure i.size) = _
  rw [run_bind, this]
  rfl
theorem part_run {t : TypeId} {l : List XV} {off : Nat} {v : XV} {vs : List Value} (h : partX P t l off = some v) (hl : SV.toLitL (svL ρ l) = some vs) : ∃ a, (v.sv ρ).toLit = some a ∧ pureRun P (part t vs.toArray off) = some a := by
  unfold partX at h
  split at h
  · rename_i ht
    split at h
    · rename_i n hn
      rw [Option.map_eq_some_iff] at h
      obtain ⟨ws, hws, rfl⟩ := h
      obtain ⟨e1, e2⟩ := cut_spec.1 (cutX_sv (ρ := ρ) hws)
      have h3 := toLitL_take n (toLitL_drop off hl)
      rw [e1] at h3
      refine ⟨.agg ((vs.drop off).take n).toArray, by simp only [XV.sv, SV.toLit, h3], ?_⟩
      show pureRun P (isAgg t >>= fun b => _) = _
      rw [run_bind, isAgg_run ht]
      show pureRun P (sizeOf t >>= fun n => _) = _
      rw [run_bind, sizeOf_run hn]
      show some (Value.agg (vs.toArray.extract off (off + n))) = _
      congr 2
      simp
    · cases h
  · rename_i ht
    obtain ⟨a, h1, h2⟩ := toLitL_get hl (by rw [svL_get, h]; rfl : (svL ρ l)[off]? = some (v.sv ρ))
    refine ⟨a, h1, ?_⟩
    show pureRun P (isAgg t >>= fun b => _) = _
    rw [run_bind, isAgg_run ht]
    show pureRun P (match vs.toArray[off]? with
      | some v => pure v
      | none => stuck "part: no such cell") = _
    rw [List.getElem?_toArray, h2]
    rfl
  · cases h
theorem eqF_run {d : Nat} {rec : TypeId → XV → XV → Option X} (hrec : ∀ t x y e a b, rec t x y = some e → (x.sv ρ).toLit = some a → (y.sv ρ).toLit = some b → pureRun P (Op.equalIn d t a b) = some (e.den ρ).b) {xs ys : List XV} {as bs : List Value} (hx : SV.toLitL (svL ρ xs) = some as) (hy : SV.toLitL (svL ρ ys) = some bs) : ∀ {fs : List Field} {e : X}, eqF P rec xs ys fs = some e →
    pureRun P (forIn fs ((none, ()) : Option Bool × Unit) fun f _ => if f.name ≠ "_" then do
        let a ← part f.type as.toArray f.offset
        let b ← part f.type bs.toArray f.offset
        let r ← Op.equalIn d f.type a b
        if (!r) = true then pure (ForInStep.done (some false, ())) else pure (ForInStep.yield (none, ()))
      else pure (ForInStep.yield (none, ()))) = some (if (e.den ρ).b = true then (none, ()) else (some false, ()))
  | [], e, h => by
    obtain rfl := Option.some.inj h
    rfl
  | f :: fs, e, h => by
    unfold eqF at h
    cases hn : f.name == "_" with
    | true => rw [hn] at h; cases h
    | false =>
      rw [hn, cond_false] at h
      have hn : f.name ≠ "_" := by simpa using hn
      split at h
      · rename_i a b ha hb
        split at h
        · rename_i e1 e2 h1 h2
          obtain rfl := Option.some.inj h
          obtain ⟨va, a1, a2⟩ := part_run (ρ := ρ) ha hx
          obtain ⟨vb, b1, b2⟩ := part_run (ρ := ρ) hb hy
          have hq := hrec _ _ _ _ _ _ h1 a1 b1
          have ih := eqF_run hrec hx hy h2
          rw [List.forIn_cons, run_bind, if_pos hn, run_bind, a2]
          simp only [Option.bind_some]
          rw [run_bind, b2]
          simp only [Option.bind_some]
          rw [run_bind, hq]
          simp only [Option.bind_some, xand_b]
          cases hv : (e1.den ρ).b with
          | true =>
            simp only [Bool.not_true, Bool.false_eq_true, if_false, Bool.true_and]
            exact ih
          | false =>
            simp only [Bool.not_false, if_true, Bool.false_and, Bool.false_eq_true, if_false]
            rfl
        · cases h
      · cases h
theorem eqT_run : ∀ (d : Nat) (t : TypeId) (x y : XV) (e : X) (a b : Value), eqT P d t x y = some e → (x.sv ρ).toLit = some a → (y.sv ρ).toLit = some b → pureRun P (Op.equalIn d t a b) = some (e.den ρ).b
  | 0, _, _, _, _, _, _, h, _, _ => by cases h
  | d + 1, t, x, y, e, a, b, h, hx, hy => by
    unfold eqT at h
    split at h
    · rename_i p q ht
      obtain rfl := Option.some.inj h
      simp only [XV.sv, SV.toLit, Option.some.injEq] at hx hy
      subst hx; subst hy
      rw [Op.equalIn, run_und ht, xbeq_b]
      rfl
    · rename_i k0 k p k' q ht
      cases hk : decide (k = k') with
      | false => rw [hk] at h; cases h
      | true =>
        rw [hk, cond_true] at h
        obtain rfl := of_decide_eq_true hk
        obtain rfl := Option.some.inj h
        simp only [XV.sv, SV.toLit, Option.some.injEq] at hx hy
        subst hx; subst hy
        rw [Op.equalIn, run_und ht, xeq_b]
        simp only [if_true]
        show some (_ == _) = _
        rw [dec_eq]
    · rename_i p q ht
      obtain rfl := Option.some.inj h
      simp only [XV.sv, SV.toLit, Option.some.injEq] at hx hy
      subst hx; subst hy
      rw [Op.equalIn, run_und ht, xteq_b]
      show some ((⟨⟨(p.den ρ).t⟩⟩ : ByteArray) == ⟨⟨(q.den ρ).t⟩⟩) = _
      have e : ((⟨⟨(p.den ρ).t⟩⟩ : ByteArray) == ⟨⟨(q.den ρ).t⟩⟩) = decide ((p.den ρ).t = (q.den ρ).t) := by
        show ((⟨(p.den ρ).t⟩ : Array UInt8) == ⟨(q.den ρ).t⟩) = _
        rw [Bool.eq_iff_iff, beq_iff_eq, decide_eq_true_iff]
        simp
      rw [e]
    · rename_i fs ht
      split at h
      · rename_i xs ys hpx hpy
        cases hh : P.stoodInHeld t with
        | true => rw [hh] at h; cases h
        | false =>
          rw [hh, cond_false] at h
          obtain ⟨as, rfl, has⟩ := partsX_lit hpx hx
          obtain ⟨bs, rfl, hbs⟩ := partsX_lit hpy hy
          have := eqF_run (P := P) (d := d) (fun t x y e a b => eqT_run d t x y e a b) has hbs h
          rw [Op.equalIn, run_und ht]
          simp only
          rw [run_bind]
          have hp : pureRun P program = some P := rfl
          rw [hp]
          simp only [Option.bind_some, hh, Bool.false_eq_true, if_false]
          rw [run_bind, ← Array.forIn_toList, this]
          cases (e.den ρ).b <;> rfl
      · cases h
    · cases h
theorem eqT_bin {op : BinOp} {t : TypeId} {xo yo : Operand} {x y : XV} {e : X} {as bs : Array Value} (he : eqT P Op.maxDepth t x y = some e) (hx : (x.sv ρ).toLit = some (.agg as)) (hy : (y.sv ρ).toLit = some (.agg bs)) (hg : P.eqGuardType P.depth t = false) (ho : op = .eql ∨ op = .neq) :
    binQ P op t xo yo (x.sv ρ) (y.sv ρ) = some (.lit (.bool (if op = .eql then (e.den ρ).b else !(e.den ρ).b))) := by
  have h1 : pureRun P (Op.equal t (.agg as) (.agg bs)) = some (e.den ρ).b := eqT_run _ _ _ _ _ _ _ he hx hy
  have h2 : ∀ o, (o = .eql ∨ o = .neq) → pureRun P (eqGuard o t xo yo (.agg as) (.agg bs)) = some () := fun o ho => by
    rcases ho with rfl | rfl
    · show pureRun P (program >>= fun p => program >>= fun q => if (!p.eqGuardType q.depth t) = true then _ else _) = _
      rw [run_bind]
      show pureRun P (program >>= fun q => if (!P.eqGuardType q.depth t) = true then _ else _) = _
      rw [run_bind]
      show pureRun P (if (!P.eqGuardType P.depth t) = true then _ else _) = _
      rw [hg]; rfl
    · show pureRun P (program >>= fun p => program >>= fun q => if (!p.eqGuardType q.depth t) = true then _ else _) = _
      rw [run_bind]
      show pureRun P (program >>= fun q => if (!P.eqGuardType q.depth t) = true then _ else _) = _
      rw [run_bind]
      show pureRun P (if (!P.eqGuardType P.depth t) = true then _ else _) = _
      rw [hg]; rfl
  have h3 : pureRun P (eqGuard op t xo yo (.agg as) (.agg bs) >>= fun _ => binOp op t (.agg as) (.agg bs)) = some (.bool (if op = .eql then (e.den ρ).b else !(e.den ρ).b)) := by
    rw [run_bind, h2 op ho]
    rcases ho with rfl | rfl
    · show pureRun P (Op.equal t (.agg as) (.agg bs) >>= fun r => pure (Value.bool r)) = _
      rw [run_bind, h1]; rfl
    · show pureRun P (Op.equal t (.agg as) (.agg bs) >>= fun r => pure (Value.bool !r)) = _
      rw [run_bind, h1]; rfl
  have h3 : pureRun P (do eqGuard op t xo yo (.agg as) (.agg bs); binOp op t (.agg as) (.agg bs)) = _ := h3
  simp only [binQ, hx, hy, h3, Option.map_some]
end
mutual
def litOk : XV → Bool
  | .int _ _ | .bool _ | .txt _ | .lit _ => true
  | .agg l => litOkL l
  | _ => false
def litOkL : List XV → Bool
  | [] => true
  | v :: l => litOk v && litOkL l
end
mutual
theorem litOk_lit (ρ : Va) : ∀ v : XV, litOk v = true → ∃ a, (v.sv ρ).toLit = some a
  | .int _ _, _ => ⟨_, rfl⟩
  | .bool _, _ => ⟨_, rfl⟩
  | .txt _, _ => ⟨_, rfl⟩
  | .lit _, _ => ⟨_, rfl⟩
  | .agg l, h => by
    obtain ⟨vs, hvs⟩ := litOkL_lit ρ l h
    exact ⟨.agg vs.toArray, by simp only [XV.sv, SV.toLit, hvs]⟩
  | .ptr _ _, h => by cases h
  | .raw _, h => by cases h
  | .pad _ _, h => by cases h
  | .map _, h => by cases h
  | .slice _ _ _ _, h => by cases h
  | .tup _, h => by cases h
  | .fn _ _ _, h => by cases h
  | .yield _, h => by cases h
  | .iface _ _, h => by cases h
theorem litOkL_lit (ρ : Va) : ∀ l : List XV, litOkL l = true → ∃ vs, SV.toLitL (svL ρ l) = some vs
  | [], _ => ⟨[], rfl⟩
  | v :: l, h => by
    simp only [litOkL, Bool.and_eq_true] at h
    obtain ⟨a, ha⟩ := litOk_lit ρ v h.1
    obtain ⟨vs, hvs⟩ := litOkL_lit ρ l h.2
    exact ⟨a :: vs, by simp only [svL, SV.toLitL, ha, hvs]⟩
end
def qStruct (P : Program) (S : Sy) (op : BinOp) (t : TypeId) (x y : Operand) : QR := match opd S.f x, opd S.f y with
  | some a, some b => bif (partsX a).isSome && ((partsX b).isSome && (litOk a && (litOk b && !P.eqGuardType P.depth t))) then (match op, eqT P Op.maxDepth t a b with
    | .eql, some e => .ok (.bool e) [] .no
    | .neq, some e => .ok (.bool (xnot e)) [] .no
    | _, _ => .no) else .no
  | _, _ => .no
theorem qStruct_sound {P : Program} {ρ : Va} {S : Sy} {fr : Fr} {op : BinOp} {t : TypeId} {x y xo yo : Operand} {v : XV} {vc : List X} {li : LI} (hf : FM ρ S.f fr) (h1 : qStruct P S op t x y = .ok v vc li) : binQ P op t xo yo (fr.ev x) (fr.ev y) = some (v.sv ρ) ∧ li = .no := by
  unfold qStruct at h1
  split at h1
  · rename_i a b ha hb
    cases hc : (partsX a).isSome && ((partsX b).isSome && (litOk a && (litOk b && !P.eqGuardType P.depth t))) with
    | false => rw [hc] at h1; cases h1
    | true =>
      rw [hc, cond_true] at h1
      simp only [Bool.and_eq_true, Bool.not_eq_true'] at hc
      obtain ⟨c1, c2, c3, c4, c5⟩ := hc
      obtain ⟨la, hla⟩ := Option.isSome_iff_exists.1 c1
      obtain ⟨lb, hlb⟩ := Option.isSome_iff_exists.1 c2
      obtain ⟨va, hva⟩ := litOk_lit ρ a c3
      obtain ⟨vb, hvb⟩ := litOk_lit ρ b c4
      obtain ⟨as, rfl, _⟩ := partsX_lit hla hva
      obtain ⟨bs, rfl, _⟩ := partsX_lit hlb hvb
      rw [hf.opd ha, hf.opd hb]
      split at h1
      · rename_i e he
        simp only [QR.ok.injEq] at h1
        obtain ⟨rfl, _, rfl⟩ := h1
        exact ⟨eqT_bin he hva hvb c5 (.inl rfl), rfl⟩
      · rename_i e he
        simp only [QR.ok.injEq] at h1
        obtain ⟨rfl, _, rfl⟩ := h1
        refine ⟨?_, rfl⟩
        simp only [XV.sv, xnot_b]
        exact eqT_bin he hva hvb c5 (.inr rfl)
      · cases h1
  · cases h1
end Go.Proofs.YtdhmljjpiainnaaGreatDoor.Sx
