/-
  NAMED TEXTS AS ROWS OF TOKENS: a token is a byte, or one of the texts that are given; what is told of operations on named texts and numbers is checked on tokens, by program; that what is checked is so; by the author of this claim. | NAMED TEXTS AS ROWS OF TOKENS (2): operations; what the check lets pass is the model's own word; by the author of this claim. | NAMED TEXTS AS ROWS OF TOKENS (3): calls of functions on texts; what the check lets pass is what they return; by the author of this claim.
-/
import Derived.Test.YtcpigoljjbhkkaaGreatDoorFtGC
namespace Go.Proofs.YtcpigoljjbhkkaaGreatDoor.ft
open Go Go.RowKit Go.Proofs.YtcpigoljjbhkkaaGreatDoor.Ev

inductive Tok where
  | b (c : UInt8)
  | a (i : Nat)
def Tok.eq : Tok → Tok → Bool
  | .b c, .b d => Nat.beq c.toNat d.toNat
  | .a i, .a j => Nat.beq i j
  | _, _ => false
theorem byte_eq {c d : UInt8} (h : Nat.beq c.toNat d.toNat = true) : c = d := UInt8.toNat_inj.1 (Nat.eq_of_beq_eq_true h)
theorem byte_ne {c d : UInt8} (h : Nat.beq c.toNat d.toNat = false) : c ≠ d := fun e => by rw [e, Nat.beq_refl] at h; cases h
theorem Tok.eq_eq {x y : Tok} (h : Tok.eq x y = true) : x = y := by
  cases x <;> cases y <;> first | cases h | skip
  · exact congrArg Tok.b (byte_eq h)
  · exact congrArg Tok.a (Nat.eq_of_beq_eq_true h)
def eqL : List Tok → List Tok → Bool
  | [], [] => true
  | x :: l, y :: m => Tok.eq x y && eqL l m
  | _, _ => false
theorem eqL_eq : ∀ {l m : List Tok}, eqL l m = true → l = m
  | [], [], _ => rfl
  | x :: l, y :: m, h => by
    have h : (Tok.eq x y && eqL l m) = true := h
    rw [Bool.and_eq_true] at h
    rw [Tok.eq_eq h.1, eqL_eq h.2]
/-- The texts that are given: two, each escaped in part, escaped, and how its length is written. -/
def att (s t : List UInt8) : Nat → List UInt8
  | 0 => s
  | 1 => t
  | 2 => e1 s
  | 3 => e1 t
  | 4 => esc s
  | 5 => esc t
  | 6 => dg s.length
  | 7 => dg t.length
  | _ => []
/-- What is named: texts, numbers (each the length of a text), and how long the two texts are. -/
structure Tk where
  tx : List (List Tok)
  nt : List (List Tok)
  sl : Nat
  sh : Option Nat
  tl : Nat
  th : Option Nat
def leO (n : Nat) : Option Nat → Prop
  | some h => n ≤ h
  | none => True
structure Fit (K : Tk) (s t : List UInt8) : Prop where
  sl : K.sl ≤ s.length
  sh : leO s.length K.sh
  tl : K.tl ≤ t.length
  th : leO t.length K.th
def upto (n : Nat) : Option Nat → Bool
  | some h => Nat.ble h n
  | none => false
theorem upto_le {n m : Nat} {o : Option Nat} (h : leO m o) (hu : upto n o = true) : m ≤ n := by
  cases o with
  | none => cases hu
  | some k => exact Nat.le_trans h (Nat.le_of_ble_eq_true hu)
def isB : Tok → Bool
  | .b _ => true
  | _ => false
/-- A text that is not too long. -/
def small (K : Tk) (n : Nat) (l : List Tok) : Bool := Nat.ble l.length n && (l.all isB || (upto 300 K.sh && upto 300 K.th))
/-- Which byte is not in a token. -/
def lacks (K : Tk) (c : UInt8) : Tok → Bool
  | .b d => !Nat.beq d.toNat c.toNat
  | .a 4 => Nat.beq c.toNat 10
  | .a 5 => Nat.beq c.toNat 10
  | .a 6 => upto 255 K.sh && !isDig c
  | .a 7 => upto 255 K.th && !isDig c
  | _ => false
def toksOf (K : Tk) : SV → Option (List Tok)
  | .opq i => K.tx[i]?
  | .lit (.string ⟨⟨l⟩⟩) => some (l.map .b)
  | _ => none

section
variable {K : Tk} {s t : List UInt8}
def Tok.den (s t : List UInt8) : Tok → List UInt8
  | .b c => [c]
  | .a i => att s t i
def den (s t : List UInt8) (l : List Tok) : List UInt8 := l.flatMap (Tok.den s t)
theorem den_append (l m : List Tok) : den s t (l ++ m) = den s t l ++ den s t m := List.flatMap_append ..
theorem den_cons (x : Tok) (l : List Tok) : den s t (x :: l) = Tok.den s t x ++ den s t l := List.flatMap_cons ..
theorem den_nil : den s t [] = [] := rfl
theorem den_bytes (l : List UInt8) : den s t (l.map .b) = l := by
  induction l with
  | nil => rfl
  | cons c l ih => rw [List.map_cons, den_cons, ih]; rfl
theorem dg_len3 (n : Nat) : (dg n).length ≤ 3 := by
  unfold dg
  split
  · simp
  · split <;> simp
theorem att_len (hs : s.length ≤ 300) (ht : t.length ≤ 300) (i : Nat) : (att s t i).length ≤ 1200 := by
  have h1 := e1_len s
  have h2 := e1_len t
  have h3 := esc_len s
  have h4 := esc_len t
  have h5 := dg_len3 s.length
  have h6 := dg_len3 t.length
  unfold att
  split <;> first | omega | simp
theorem den_lenB : ∀ {l : List Tok}, l.all isB = true → (den s t l).length ≤ 1200 * l.length
  | [], _ => Nat.le_refl _
  | .b c :: l, h => by
    rw [List.all_cons, Bool.and_eq_true] at h
    have := den_lenB (l := l) h.2
    rw [den_cons, List.length_append, List.length_cons]
    have : (Tok.den s t (.b c)).length = 1 := rfl
    omega
  | .a _ :: _, h => by cases h
theorem den_lenA (hs : s.length ≤ 300) (ht : t.length ≤ 300) : ∀ l : List Tok, (den s t l).length ≤ 1200 * l.length
  | [] => Nat.le_refl _
  | x :: l => by
    have := den_lenA hs ht l
    rw [den_cons, List.length_append, List.length_cons]
    have : (Tok.den s t x).length ≤ 1200 := by
      cases x with
      | a i => exact att_len hs ht i
      | b c => show [c].length ≤ 1200; simp
    omega
theorem den_len (f : Fit K s t) {n : Nat} {l : List Tok} (h : small K n l = true) : (den s t l).length ≤ 1200 * n := by
  unfold small at h
  rw [Bool.and_eq_true, Bool.or_eq_true, Bool.and_eq_true] at h
  refine Nat.le_trans ?_ (Nat.mul_le_mul_left _ (Nat.le_of_ble_eq_true h.1))
  rcases h.2 with h2 | h2
  · exact den_lenB h2
  · exact den_lenA (upto_le f.sh h2.1) (upto_le f.th h2.2) l
theorem den_lacks (f : Fit K s t) {c : UInt8} : ∀ {l : List Tok}, l.all (lacks K c) = true → c ∉ den s t l
  | [], _ => List.not_mem_nil
  | x :: l, h => by
    rw [List.all_cons, Bool.and_eq_true] at h
    rw [den_cons, List.mem_append]
    rintro (hx | hx)
    · have h1 := h.1
      unfold lacks at h1
      split at h1
      · rename_i d
        have : c = d := List.mem_singleton.1 hx
        rw [Bool.not_eq_true'] at h1
        exact byte_ne h1 this.symm
      · obtain rfl : c = 10 := byte_eq h1
        exact esc_line s hx
      · obtain rfl : c = 10 := byte_eq h1
        exact esc_line t hx
      · rw [Bool.and_eq_true, Bool.not_eq_true'] at h1
        exact dg_not (by have := upto_le f.sh h1.1; omega) h1.2 hx
      · rw [Bool.and_eq_true, Bool.not_eq_true'] at h1
        exact dg_not (by have := upto_le f.th h1.1; omega) h1.2 hx
      · cases h1
    · exact den_lacks f h.2 hx

/-! ### what names mean -/
structure NmOk (K : Tk) (s t : List UInt8) (θ : Ev.Ren) (Kn : Nat → Prop) : Prop where
  kn : ∀ i, i < 1000 → Kn i
  tx : ∀ (i : Nat) l, K.tx[i]? = some l → i < 1000 ∧ θ.opq i = tv (den s t l)
  nt : ∀ (i : Nat) l, K.nt[i]? = some l → i < 1000 ∧ θ.num i = ((den s t l).length : Int)
variable {θ : Ev.Ren} {Kn : Nat → Prop}
theorem toks_ok (h : NmOk K s t θ Kn) {x : SV} {l : List Tok} (hx : toksOf K x = some l) : conc θ x = tv (den s t l) ∧ x.ok Kn := by
  unfold toksOf at hx
  split at hx
  · rename_i i
    obtain ⟨h1, h2⟩ := h.tx i l hx
    exact ⟨by show oneOf (θ.opq i) = _; rw [h2]; rfl, h.kn i h1⟩
  · rename_i m
    obtain rfl := Option.some.inj hx
    exact ⟨by rw [den_bytes]; rfl, trivial⟩
  · cases hx
def numOf (K : Tk) : SV → Option (List Tok)
  | .num .i64 i => K.nt[i]?
  | .lit (.int .i64 (.ofNat n)) => some (List.replicate n (.b 0))
  | _ => none
theorem den_rep (n : Nat) : (den s t (List.replicate n (.b 0))).length = n := by
  induction n with
  | zero => rfl
  | succ n ih =>
    rw [List.replicate_succ, den_cons, List.length_append, ih]
    show 1 + n = n + 1
    omega
theorem num_ok (h : NmOk K s t θ Kn) {x : SV} {l : List Tok} (hx : numOf K x = some l) : conc θ x = .int .i64 (den s t l).length ∧ x.ok Kn := by
  unfold numOf at hx
  split at hx
  · rename_i i
    obtain ⟨h1, h2⟩ := h.nt i l hx
    exact ⟨by show Value.int .i64 (θ.num i) = _; rw [h2], h.kn i h1⟩
  · rename_i n
    obtain rfl := Option.some.inj hx
    exact ⟨by rw [den_rep]; rfl, trivial⟩
  · cases hx

/-! ### texts that differ -/
def diff : List Tok → List Tok → Bool
  | .b c :: l, .b d :: m => bif Nat.beq c.toNat d.toNat then diff l m else true
  | .b _ :: _, [] => true
  | [], .b _ :: _ => true
  | _, _ => false
theorem diff_ne : ∀ {l m : List Tok}, diff l m = true → den s t l ≠ den s t m
  | .b c :: l, .b d :: m, h, e => by
    have h : (bif Nat.beq c.toNat d.toNat then diff l m else true) = true := h
    rw [den_cons, den_cons] at e
    injection e with e1 e2
    rw [e1, Nat.beq_refl, cond_true] at h
    exact diff_ne h e2
  | .b c :: l, [], _, e => by rw [den_cons] at e; cases e
  | [], .b c :: l, _, e => by rw [den_cons] at e; cases e
  | .a _ :: _, _, h, _ => by cases h
  | .b _ :: _, .a _ :: _, h, _ => by cases h
  | [], .a _ :: _, h, _ => by cases h
  | [], [], h, _ => by cases h
/-- What stands behind the first tokens. -/
def strip : List Tok → List Tok → Option (List Tok)
  | [], m => some m
  | x :: l, y :: m => bif Tok.eq x y then strip l m else none
  | _ :: _, [] => none
theorem strip_eq : ∀ {l m r : List Tok}, strip l m = some r → m = l ++ r
  | [], m, r, h => by obtain rfl := Option.some.inj h; rfl
  | x :: l, y :: m, r, h => by
    have h : (bif Tok.eq x y then strip l m else none) = some r := h
    cases hx : Tok.eq x y with
    | false => rw [hx] at h; cases h
    | true =>
      rw [hx, cond_true] at h
      rw [Tok.eq_eq hx, strip_eq h]
      rfl
/-- The first bytes, and the rest. -/
def headB : Nat → List Tok → Option (List UInt8 × List Tok)
  | 0, l => some ([], l)
  | n + 1, .b c :: l => match headB n l with
    | some (p, r) => some (c :: p, r)
    | none => none
  | _ + 1, _ => none
theorem headB_eq : ∀ {n : Nat} {l r : List Tok} {p : List UInt8}, headB n l = some (p, r) → l = p.map .b ++ r ∧ p.length = n
  | 0, l, r, p, h => by
    obtain ⟨rfl, rfl⟩ := Prod.mk.inj (Option.some.inj h)
    exact ⟨rfl, rfl⟩
  | n + 1, .b c :: l, r, p, h => by
    unfold headB at h
    split at h
    · rename_i p' r' hp
      obtain ⟨rfl, rfl⟩ := Prod.mk.inj (Option.some.inj h)
      obtain ⟨h1, h2⟩ := headB_eq hp
      exact ⟨by rw [h1]; rfl, by rw [List.length_cons, h2]⟩
    · cases h
  | n + 1, [], r, p, h => by cases h
  | n + 1, .a i :: l, r, p, h => by cases h
/-- A text parted at a number. -/
def part2 (K : Tk) (q : SV) (l : List Tok) : Option (List Tok × List Tok) := match q with
  | .lit (.int .i64 (.ofNat n)) => (headB n l).map fun x => (x.1.map .b, x.2)
  | .num .i64 i => match K.nt[i]? with
    | some p => (strip p l).map fun r => (p, r)
    | none => none
  | _ => none
theorem part2_ok (h : NmOk K s t θ Kn) {q : SV} {l p r : List Tok} (hq : part2 K q l = some (p, r)) : l = p ++ r ∧ conc θ q = .int .i64 (den s t p).length := by
  unfold part2 at hq
  split at hq
  · rename_i n
    obtain ⟨⟨a, b⟩, h1, h2⟩ := Option.map_eq_some_iff.1 hq
    obtain ⟨rfl, rfl⟩ := Prod.mk.inj h2
    obtain ⟨h3, h4⟩ := headB_eq h1
    exact ⟨h3, by rw [den_bytes, h4]; rfl⟩
  · rename_i i
    split at hq
    · rename_i p' hp
      obtain ⟨r', h1, h2⟩ := Option.map_eq_some_iff.1 hq
      obtain ⟨rfl, rfl⟩ := Prod.mk.inj h2
      obtain ⟨_, h4⟩ := h.nt i p' hp
      exact ⟨strip_eq h1, by show Value.int .i64 (θ.num i) = _; rw [h4]⟩
    · cases hq
  · cases hq
end
end Go.Proofs.YtcpigoljjbhkkaaGreatDoor.ft
namespace Go.Proofs.YtcpigoljjbhkkaaGreatDoor.ft
open Go Go.RowKit Go.Proofs.YtcpigoljjbhkkaaGreatDoor.Ev

def chkT (K : Tk) (op : BinOp) (x y v : SV) : Bool := match toksOf K x, toksOf K y with
  | some a, some b => (match op, v with
    | .add, v => (match toksOf K v with
      | some c => eqL (a ++ b) c && (small K 400 a && small K 400 b)
      | none => false)
    | .eql, .lit (.bool true) => eqL a b
    | .eql, .lit (.bool false) => diff a b
    | .neq, .lit (.bool false) => eqL a b
    | .neq, .lit (.bool true) => diff a b
    | _, _ => false)
  | _, _ => false
/-- How long a text is at least, and at most, if it is one of the two. -/
def loOf (K : Tk) : List Tok → Nat
  | [.a 0] => K.sl
  | [.a 1] => K.tl
  | _ => 0
def hiOf (K : Tk) : List Tok → Option Nat
  | [.a 0] => K.sh
  | [.a 1] => K.th
  | _ => none
def chkN (K : Tk) (op : BinOp) (x y v : SV) : Bool := match op, x, y, v with
  | .gtr, .num .i64 i, .lit (.int .i64 (.ofNat z)), .lit (.bool true) => (match K.nt[i]? with
    | some a => Nat.blt z (loOf K a)
    | none => false)
  | .gtr, .num .i64 i, .lit (.int .i64 (.ofNat z)), .lit (.bool false) => (match K.nt[i]? with
    | some a => upto z (hiOf K a)
    | none => false)
  | .leq, .num .i64 i, .lit (.int .i64 (.ofNat z)), .lit (.bool true) => (match K.nt[i]? with
    | some a => upto z (hiOf K a)
    | none => false)
  | .leq, .num .i64 i, .lit (.int .i64 (.ofNat z)), .lit (.bool false) => (match K.nt[i]? with
    | some a => Nat.blt z (loOf K a)
    | none => false)
  | .lss, .num .i64 i, .lit (.int .i64 (.ofNat 0)), .lit (.bool false) => (K.nt[i]?).isSome
  | .gtr, .num .i64 i, .num .i64 j, .lit (.bool false) => (match K.nt[i]?, K.nt[j]? with
    | some a, some b => (strip a b).isSome
    | _, _ => false)
  | .add, .lit (.int .i64 (.ofNat 0)), .num .i64 i, .num .i64 j => Nat.beq i j && (match K.nt[i]? with
    | some a => small K 400 a
    | none => false)
  | _, _, _, _ => false
def chkS (K : Tk) (op : BinOp) (x y v : SV) : Bool := match op, x, y, v with
  | .eql, .agg [.lit (.int .i64 a0), .lit (.int .i64 a1), .lit (.int .i64 a2), .opq i, .lit (.bool a4), .lit (.int .i64 a5)], .agg [.lit (.int .i64 b0), .lit (.int .i64 b1), .lit (.int .i64 b2), .opq j, .lit (.bool b4), .lit (.int .i64 b5)], .lit (.bool true) =>
    (K.tx[i]?).isSome && Nat.beq i j && (decide (a0 = b0) && (decide (a1 = b1) && (decide (a2 = b2) && (decide (a4 = b4) && decide (a5 = b5)))))
  | .eql, .agg [.lit (.int .i64 a0), .lit (.int .i64 _), .lit (.int .i64 _), .opq i, .lit (.bool _), .lit (.int .i64 _)], .agg [.lit (.int .i64 b0), .lit (.int .i64 _), .lit (.int .i64 _), .lit (.string ⟨⟨_⟩⟩), .lit (.bool _), .lit (.int .i64 _)], .lit (.bool false) => (K.tx[i]?).isSome && !decide (a0 = b0)
  | _, _, _, _ => false
def nthB : List Tok → Nat → Option UInt8
  | .b c :: _, 0 => some c
  | .b _ :: l, k + 1 => nthB l k
  | _, _ => none
def chkI (K : Tk) (x i v : SV) : Bool := match toksOf K x, i, v with
  | some a, .lit (.int .i64 (.ofNat k)), .lit (.int .u8 (.ofNat c)) => (match nthB a k with
    | some d => Nat.beq d.toNat c
    | none => false)
  | _, _, _ => false
def chkP (K : Tk) (x : SV) (lo hi : Option SV) (v : SV) : Bool := match toksOf K x, toksOf K v with
  | some a, some c => (match lo, hi with
    | some q, none => (match part2 K q a with
      | some (_, r) => eqL r c
      | none => false)
    | none, some q => (match part2 K q a with
      | some (p, _) => eqL p c
      | none => false)
    | _, _ => false)
  | _, _ => false
def chkL (K : Tk) (x v : SV) : Bool := match toksOf K x, v with
  | some a, .num .i64 i => (match K.nt[i]? with
    | some b => eqL a b
    | none => false)
  | _, _ => false
def chkRow (K : Tk) : Row → Bool
  | (.bin op ty x y, v) => (Nat.beq ty 9 && chkT K op x y v) || ((Nat.beq ty 3 && chkN K op x y v) || (Nat.beq ty 48 && chkS K op x y v))
  | (.len ty x, v) => Nat.beq ty 9 && chkL K x v
  | (.idx ty x i, v) => Nat.beq ty 9 && chkI K x i v
  | (.slc ty x lo hi, v) => Nat.beq ty 9 && chkP K x lo hi v

section
variable {K : Tk} {s t : List UInt8} {θ : Ev.Ren} {Kn : Nat → Prop}
theorem num_of (h : NmOk K s t θ Kn) {i : Nat} {a : List Tok} (hi : K.nt[i]? = some a) : conc θ (.num .i64 i) = .int .i64 ((den s t a).length : Int) := by
  show Value.int .i64 (θ.num i) = _
  rw [(h.nt i a hi).2]
theorem den_one (i : Nat) : den s t [.a i] = att s t i := List.append_nil _
theorem lo_le (f : Fit K s t) (a : List Tok) : loOf K a ≤ (den s t a).length := by
  unfold loOf
  split
  · rw [den_one]; exact f.sl
  · rw [den_one]; exact f.tl
  · exact Nat.zero_le _
theorem hi_le (f : Fit K s t) {a : List Tok} {z : Nat} (h : upto z (hiOf K a) = true) : (den s t a).length ≤ z := by
  unfold hiOf at h
  split at h
  · rw [den_one]; exact upto_le f.sh h
  · rw [den_one]; exact upto_le f.th h
  · cases h
theorem chkT_ok (f : Fit K s t) (h : NmOk K s t θ Kn) {op : BinOp} {x y v : SV} (hc : chkT K op x y v = true) : v.ok Kn ∧ RowW Tryz.prog θ (.bin op 9 x y, v) := by
  unfold chkT at hc
  split at hc
  · rename_i a b ha hb
    have hx := (toks_ok h ha).1
    have hy := (toks_ok h hb).1
    split at hc
    · split at hc
      · rename_i c hv
        obtain ⟨hz, hk⟩ := toks_ok h hv
        simp only [Bool.and_eq_true] at hc
        have e := eqL_eq hc.1
        refine ⟨hk, fun xo yo => ?_⟩
        have l1 := den_len f hc.2.1
        have l2 := den_len f hc.2.2
        rw [hx, hy, hz, ← e, den_append]
        exact t_add (by omega)
      · cases hc
    · have e := eqL_eq hc
      refine ⟨trivial, fun xo yo => ?_⟩
      rw [hx, hy]
      exact t_eqlT (by rw [e])
    · have e := diff_ne (s := s) (t := t) hc
      refine ⟨trivial, fun xo yo => ?_⟩
      rw [hx, hy]
      exact t_eqlF e
    · have e := eqL_eq hc
      refine ⟨trivial, fun xo yo => ?_⟩
      rw [hx, hy]
      exact t_neqT (by rw [e])
    · have e := diff_ne (s := s) (t := t) hc
      refine ⟨trivial, fun xo yo => ?_⟩
      rw [hx, hy]
      exact t_neqF e
    · cases hc
  · cases hc
theorem chkN_ok (f : Fit K s t) (h : NmOk K s t θ Kn) {op : BinOp} {x y v : SV} (hc : chkN K op x y v = true) : v.ok Kn ∧ RowW Tryz.prog θ (.bin op 3 x y, v) := by
  unfold chkN at hc
  split at hc
  · rename_i i z
    split at hc
    · rename_i a ha
      have hz : z < loOf K a := by simpa [Nat.blt_eq] using hc
      have := lo_le f a
      refine ⟨trivial, fun xo yo => ?_⟩
      rw [num_of h ha]
      exact c3_gtrT (by show (_ : Int) > (z : Int); omega)
    · cases hc
  · rename_i i z
    split at hc
    · rename_i a ha
      have := hi_le f hc
      refine ⟨trivial, fun xo yo => ?_⟩
      rw [num_of h ha]
      exact c3_gtrF (by show ¬ (_ : Int) > (z : Int); omega)
    · cases hc
  · rename_i i z
    split at hc
    · rename_i a ha
      have := hi_le f hc
      refine ⟨trivial, fun xo yo => ?_⟩
      rw [num_of h ha]
      exact c3_leqT (by show (_ : Int) ≤ (z : Int); omega)
    · cases hc
  · rename_i i z
    split at hc
    · rename_i a ha
      have hz : z < loOf K a := by simpa [Nat.blt_eq] using hc
      have := lo_le f a
      refine ⟨trivial, fun xo yo => ?_⟩
      rw [num_of h ha]
      exact c3_leqF (by show ¬ (_ : Int) ≤ (z : Int); omega)
    · cases hc
  · rename_i i
    obtain ⟨a, ha⟩ := Option.isSome_iff_exists.1 hc
    refine ⟨trivial, fun xo yo => ?_⟩
    rw [num_of h ha]
    exact c3_lssF (by show ¬ (_ : Int) < ((0 : Nat) : Int); omega)
  · rename_i i j
    split at hc
    · rename_i a b ha hb
      obtain ⟨r, hr⟩ := Option.isSome_iff_exists.1 hc
      have e := strip_eq hr
      refine ⟨trivial, fun xo yo => ?_⟩
      rw [num_of h ha, num_of h hb, e, den_append, List.length_append]
      exact c3_gtrF (by omega)
    · cases hc
  · rename_i i j
    rw [Bool.and_eq_true] at hc
    obtain rfl := Nat.eq_of_beq_eq_true hc.1
    have hc2 := hc.2
    split at hc2
    · rename_i a ha
      have l1 := den_len f hc2
      refine ⟨h.kn i (h.nt i a ha).1, fun xo yo => ?_⟩
      rw [num_of h ha]
      exact a3_add (by show ((0 : Nat) : Int) + _ = _; omega) (by omega) (by omega)
    · cases hc2
  · cases hc
theorem chkS_ok (h : NmOk K s t θ Kn) {op : BinOp} {x y v : SV} (hc : chkS K op x y v = true) : v.ok Kn ∧ RowW Tryz.prog θ (.bin op 48 x y, v) := by
  unfold chkS at hc
  split at hc
  · rename_i a0 a1 a2 i a4 a5 b0 b1 b2 j b4 b5
    simp only [Bool.and_eq_true, decide_eq_true_eq] at hc
    obtain ⟨⟨hi, hj⟩, rfl, rfl, rfl, rfl, rfl⟩ := hc
    obtain rfl := Nat.eq_of_beq_eq_true hj
    obtain ⟨l, hl⟩ := Option.isSome_iff_exists.1 hi
    have hx : conc θ (.opq i) = tv (den s t l) := (toks_ok h (x := .opq i) hl).1
    refine ⟨trivial, fun xo yo => ?_⟩
    have e : conc θ (.agg [.lit (.int .i64 a0), .lit (.int .i64 a1), .lit (.int .i64 a2), .opq i, .lit (.bool a4), .lit (.int .i64 a5)]) = .agg #[.int .i64 a0, .int .i64 a1, .int .i64 a2, tv (den s t l), .bool a4, .int .i64 a5] := by
      simp only [conc, concL] at hx ⊢
      rw [hx]
    rw [e]
    exact s48_eqlT (x := xo) (y := yo) ⟨rfl, rfl, rfl, rfl, rfl, rfl⟩
  · rename_i a0 a1 a2 i a4 a5 b0 b1 b2 m b4 b5
    simp only [Bool.and_eq_true, Bool.not_eq_true', decide_eq_false_iff_not] at hc
    obtain ⟨hi, hj⟩ := hc
    obtain ⟨l, hl⟩ := Option.isSome_iff_exists.1 hi
    have hx : conc θ (.opq i) = tv (den s t l) := (toks_ok h (x := .opq i) hl).1
    refine ⟨trivial, fun xo yo => ?_⟩
    have e : conc θ (.agg [.lit (.int .i64 a0), .lit (.int .i64 a1), .lit (.int .i64 a2), .opq i, .lit (.bool a4), .lit (.int .i64 a5)]) = .agg #[.int .i64 a0, .int .i64 a1, .int .i64 a2, tv (den s t l), .bool a4, .int .i64 a5] := by
      simp only [conc, concL] at hx ⊢
      rw [hx]
    rw [e]
    exact s48_eqlF (x := xo) (y := yo) (b0 := b0) (b1 := b1) (b2 := b2) (b3 := m) (b4 := b4) (b5 := b5) fun hh => hj hh.1
  · cases hc
theorem nthB_eq : ∀ {a : List Tok} {k : Nat} {d : UInt8}, nthB a k = some d → (den s t a)[k]? = some d
  | .b c :: l, 0, d, h => by obtain rfl := Option.some.inj h; rfl
  | .b c :: l, k + 1, d, h => by
    have h : nthB l k = some d := h
    rw [den_cons]
    exact nthB_eq h
  | [], _, _, h => by cases h
  | .a _ :: _, 0, _, h => by cases h
  | .a _ :: _, _ + 1, _, h => by cases h
theorem chkI_ok (h : NmOk K s t θ Kn) {x i v : SV} (hc : chkI K x i v = true) : v.ok Kn ∧ RowW Tryz.prog θ (.idx 9 x i, v) := by
  unfold chkI at hc
  split at hc
  · rename_i a k c ha
    have hx := (toks_ok h ha).1
    split at hc
    · rename_i d hd
      have hd := nthB_eq (s := s) (t := t) hd
      refine ⟨trivial, ?_⟩
      show indexQ _ _ _ _ = _
      rw [hx]
      obtain ⟨hlt, hg⟩ := List.getElem?_eq_some_iff.1 hd
      refine (txt_at (l := den s t a) (i := (k : Int)) (by omega) (by omega)).trans ?_
      unfold bAt
      rw [Int.toNat_natCast, hd]
      show some (SV.lit (.int .u8 ((d.toNat : Nat) : Int))) = _
      rw [Nat.eq_of_beq_eq_true hc]
      rfl
    · cases hc
  · cases hc
theorem chkP_ok (h : NmOk K s t θ Kn) {x v : SV} {lo hi : Option SV} (hc : chkP K x lo hi v = true) : v.ok Kn ∧ RowW Tryz.prog θ (.slc 9 x lo hi, v) := by
  unfold chkP at hc
  split at hc
  · rename_i a c ha hv
    have hx := (toks_ok h ha).1
    obtain ⟨hz, hk⟩ := toks_ok h hv
    split at hc
    · rename_i q
      split at hc
      · rename_i p r hp
        obtain ⟨e1, e2⟩ := part2_ok h hp
        have e := eqL_eq hc
        subst e
        refine ⟨hk, ?_⟩
        show sliceQ _ _ _ (some (.lit (conc θ q))) none none = _
        rw [hx, e2, hz, e1, den_append]
        refine (txt_from (by omega) (by rw [List.length_append]; omega)).trans ?_
        unfold tFrom
        rw [Int.toNat_natCast, List.drop_left]
      · cases hc
    · rename_i q
      split at hc
      · rename_i p r hp
        obtain ⟨e1, e2⟩ := part2_ok h hp
        have e := eqL_eq hc
        subst e
        refine ⟨hk, ?_⟩
        show sliceQ _ _ _ none (some (.lit (conc θ q))) none = _
        rw [hx, e2, hz, e1, den_append]
        refine (txt_to (by omega) (by rw [List.length_append]; omega)).trans ?_
        unfold tTo
        rw [Int.toNat_natCast, List.take_left]
      · cases hc
    · cases hc
  · cases hc
theorem chkL_ok (h : NmOk K s t θ Kn) {x v : SV} (hc : chkL K x v = true) : v.ok Kn ∧ RowW Tryz.prog θ (.len 9 x, v) := by
  unfold chkL at hc
  split at hc
  · rename_i a i ha
    have hx := (toks_ok h ha).1
    split at hc
    · rename_i b hb
      have e := eqL_eq hc
      subst e
      refine ⟨h.kn i (h.nt i _ hb).1, ?_⟩
      show lenQ _ _ _ _ = _
      rw [hx, num_of h hb]
      exact t_len
    · cases hc
  · cases hc
theorem chkRow_ok (f : Fit K s t) (h : NmOk K s t θ Kn) {r : Row} (hc : chkRow K r = true) : r.2.ok Kn ∧ RowW Tryz.prog θ r := by
  unfold chkRow at hc
  split at hc
  · rename_i op ty x y v
    simp only [Bool.or_eq_true, Bool.and_eq_true] at hc
    rcases hc with ⟨hty, hc⟩ | ⟨hty, hc⟩ | ⟨hty, hc⟩
    · obtain rfl := Nat.eq_of_beq_eq_true hty
      exact chkT_ok f h hc
    · obtain rfl := Nat.eq_of_beq_eq_true hty
      exact chkN_ok f h hc
    · obtain rfl := Nat.eq_of_beq_eq_true hty
      exact chkS_ok h hc
  · rw [Bool.and_eq_true] at hc
    obtain rfl := Nat.eq_of_beq_eq_true hc.1
    exact chkL_ok h hc.2
  · rw [Bool.and_eq_true] at hc
    obtain rfl := Nat.eq_of_beq_eq_true hc.1
    exact chkI_ok h hc.2
  · rw [Bool.and_eq_true] at hc
    obtain rfl := Nat.eq_of_beq_eq_true hc.1
    exact chkP_ok h hc.2
end
end Go.Proofs.YtcpigoljjbhkkaaGreatDoor.ft
namespace Go.Proofs.YtcpigoljjbhkkaaGreatDoor.ft
open Go Go.RowKit Go.Proofs.YtcpigoljjbhkkaaGreatDoor.Ev

def one1 (_K : Tk) : SV → Option UInt8
  | .lit (.string ⟨⟨[c]⟩⟩) => some c
  | _ => none
def chkCut (K : Tk) (args : List SV) (v : SV) : Bool := match args, v with
  | [x, .lit (.string ⟨⟨[c]⟩⟩)], .tuple [u, r, .lit (.bool b)] => (match toksOf K x, toksOf K u, toksOf K r with
    | some a, some p, some q => small K 400 a && (p.all (lacks K c) && (bif b then eqL a (p ++ .b c :: q) else eqL a p && eqL q []))
    | _, _, _ => false)
  | _, _ => false
def chkTrim (K : Tk) (args : List SV) (v : SV) : Bool := match args with
  | [x, .lit (.string ⟨⟨p⟩⟩)] => (match toksOf K x, toksOf K v with
    | some a, some z => eqL a (p.map .b ++ z)
    | _, _ => false)
  | _ => false
def chkCutp (K : Tk) (args : List SV) (v : SV) : Bool := match v with
  | .tuple [z, .lit (.bool true)] => chkTrim K args z
  | _ => false
def headNot (K : Tk) (c : UInt8) : List Tok → Bool
  | .b d :: _ => !Nat.beq d.toNat c.toNat
  | .a 6 :: _ => upto 255 K.sh && !isDig c
  | .a 7 :: _ => upto 255 K.th && !isDig c
  | [] => true
  | _ => false
def chkHas (K : Tk) (args : List SV) (v : SV) : Bool := match args, v with
  | [x, .lit (.string ⟨⟨[c]⟩⟩)], .lit (.bool false) => (match toksOf K x with
    | some a => headNot K c a
    | none => false)
  | _, _ => false
def isLen (K : Tk) (a c : List Tok) : Bool := (upto 255 K.sh && (eqL a [.a 0] && eqL c [.a 6])) || (upto 255 K.th && (eqL a [.a 1] && eqL c [.a 7]))
def chkItoa (K : Tk) (args : List SV) (v : SV) : Bool := match args with
  | [.num .i64 i] => (match K.nt[i]?, toksOf K v with
    | some a, some c => isLen K a c
    | _, _ => false)
  | _ => false
def chkAtoi (K : Tk) (args : List SV) (v : SV) : Bool := match args, v with
  | [x], .tuple [.num .i64 i, .lit .nilIface] => (match K.nt[i]?, toksOf K x with
    | some a, some c => isLen K a c
    | _, _ => false)
  | _, _ => false
def noDig : List Tok → Bool
  | [] => true
  | .b c :: _ => !isDig c
  | _ => false
def chkDig (K : Tk) (args : List SV) (v : SV) : Bool := match args with
  | [x] => (match toksOf K x with
    | some a => small K 400 a && (match v with
      | .lit (.int .i64 (.ofNat k)) => (match headB k a with
        | some (p, r) => p.all isDig && noDig r
        | none => false)
      | .num .i64 i => (match K.nt[i]? with
        | some p => (match strip p a with
          | some r => noDig r && ((upto 255 K.sh && eqL p [.a 6]) || (upto 255 K.th && eqL p [.a 7]))
          | none => false)
        | none => false)
      | _ => false)
    | none => false)
  | _ => false
def e1T (K : Tk) : Tok → Option (List Tok)
  | .b c => some (bif Nat.beq c.toNat 92 then [.b 92, .b 92] else [.b c])
  | .a 0 => some [.a 2]
  | .a 1 => some [.a 3]
  | .a 6 => bif upto 255 K.sh then some [.a 6] else none
  | .a 7 => bif upto 255 K.th then some [.a 7] else none
  | _ => none
def e2T (K : Tk) : Tok → Option (List Tok)
  | .b c => some (bif Nat.beq c.toNat 10 then [.b 92, .b 110] else [.b c])
  | .a 2 => some [.a 4]
  | .a 3 => some [.a 5]
  | .a 6 => bif upto 255 K.sh then some [.a 6] else none
  | .a 7 => bif upto 255 K.th then some [.a 7] else none
  | _ => none
def mapT (f : Tok → Option (List Tok)) : List Tok → Option (List Tok)
  | [] => some []
  | x :: l => match f x, mapT f l with
    | some a, some b => some (a ++ b)
    | _, _ => none
def chkRepl (K : Tk) (args : List SV) (v : SV) : Bool := match args with
  | [x, .lit (.string ⟨⟨[c]⟩⟩), .lit (.string ⟨⟨[d, e]⟩⟩)] => (match toksOf K x, toksOf K v with
    | some a, some z => small K 80 a && ((Nat.beq c.toNat 92 && (Nat.beq d.toNat 92 && (Nat.beq e.toNat 92 && (match mapT (e1T K) a with
        | some y => eqL y z
        | none => false)))) || (Nat.beq c.toNat 10 && (Nat.beq d.toNat 92 && (Nat.beq e.toNat 110 && (match mapT (e2T K) a with
        | some y => eqL y z
        | none => false)))))
    | _, _ => false)
  | _ => false
def chkPlain (K : Tk) (args : List SV) (v : SV) : Bool := match args, v with
  | [x], .tuple [z, .lit (.bool true)] => (match toksOf K x, toksOf K z with
    | some a, some (.b c :: r) => small K 80 (.b c :: r) && (!Nat.beq c.toNat 92 && (!Nat.beq c.toNat 10 && (match mapT (e1T K) (.b c :: r) with
      | some y => (match mapT (e2T K) y with
        | some y2 => eqL y2 a
        | none => false)
      | none => false)))
    | _, _ => false)
  | _, _ => false
def chkCall (K : Tk) (r : CRow) : Bool :=
  (Nat.beq r.f 16 && chkCut K r.args r.v) || ((Nat.beq r.f 64 && chkTrim K r.args r.v) || ((Nat.beq r.f 83 && chkCutp K r.args r.v) || ((Nat.beq r.f 142 && chkHas K r.args r.v) || ((Nat.beq r.f 59 && chkItoa K r.args r.v) || ((Nat.beq r.f 189 && chkAtoi K r.args r.v) ||
  ((Nat.beq r.f 247 && chkDig K r.args r.v) || ((Nat.beq r.f 65 && chkRepl K r.args r.v) || (Nat.beq r.f 91 && chkPlain K r.args r.v))))))))

section
variable {K : Tk} {s t : List UInt8} {θ : Ev.Ren} {Kn : Nat → Prop} {w : World}
/-- What a call returns, and that what there was stays. -/
def CallW (θ : Ev.Ren) (Kn : Nat → Prop) (f : FuncId) (args : List SV) (v : SV) (w : World) : Prop := v.ok Kn ∧ Calls Tryz.prog f (concL θ args).toArray w fun e w' => e = .returned (conc θ v) ∧ Below w.heap.size w w'
theorem chkCut_ok (f : Fit K s t) (h : NmOk K s t θ Kn) {args : List SV} {v : SV} (hc : chkCut K args v = true) (hw : WOk w) : CallW θ Kn 16 args v w := by
  unfold chkCut at hc
  split at hc
  · rename_i x c u r b
    split at hc
    · rename_i a p q ha hp hq
      obtain ⟨hx, _⟩ := toks_ok h ha
      obtain ⟨hu, ku⟩ := toks_ok h hp
      obtain ⟨hr, kr⟩ := toks_ok h hq
      simp only [Bool.and_eq_true] at hc
      have hl := den_len f hc.1
      have hn := den_lacks f hc.2.1
      have hcut : Lib.cut (den s t a) [c] = (den s t p, den s t q, b) := by
        cases b with
        | true =>
          have e := eqL_eq hc.2.2
          rw [e, den_append, den_cons]
          exact cut_at _ hn
        | false =>
          have hc2 := hc.2.2
          rw [cond_false, Bool.and_eq_true] at hc2
          rw [eqL_eq hc2.1, eqL_eq hc2.2]
          exact cut_no hn
      refine ⟨⟨ku, kr, trivial, trivial⟩, ?_⟩
      have := cut_calls (s := den s t a) (sep := [c]) hw.1 (by omega)
      rw [hcut] at this
      show Calls _ _ #[conc θ x, tv [c]] _ fun e w' => e = .returned (.tuple #[conc θ u, conc θ r, .bool b]) ∧ _
      rw [hx, hu, hr]
      exact this
    · cases hc
  · cases hc
theorem trim_eq (p z : List UInt8) : Lib.trimPrefix (p ++ z) p = z ∧ Lib.hasPrefix (p ++ z) p = true := by
  have h : Lib.hasPrefix (p ++ z) p = true := by
    unfold Lib.hasPrefix
    rw [List.isPrefixOf_iff_prefix]
    exact List.prefix_append p z
  refine ⟨?_, h⟩
  unfold Lib.trimPrefix
  rw [if_pos h, List.drop_left]
theorem chkTrim_eq (h : NmOk K s t θ Kn) {args : List SV} {v : SV} (hc : chkTrim K args v = true) : ∃ (p : List UInt8) (z : List Tok), concL θ args = [tv (p ++ den s t z), tv p] ∧ conc θ v = tv (den s t z) ∧ v.ok Kn := by
  unfold chkTrim at hc
  split at hc
  · rename_i x p
    split at hc
    · rename_i a z ha hz
      obtain ⟨hx, _⟩ := toks_ok h ha
      obtain ⟨hv, kv⟩ := toks_ok h hz
      refine ⟨p, z, ?_, hv, kv⟩
      rw [eqL_eq hc, den_append, den_bytes] at hx
      show [conc θ x, tv p] = _
      rw [hx]
    · cases hc
  · cases hc
theorem chkTrim_ok (h : NmOk K s t θ Kn) {args : List SV} {v : SV} (hc : chkTrim K args v = true) : CallW θ Kn 64 args v w := by
  obtain ⟨p, z, h1, h2, h3⟩ := chkTrim_eq h hc
  refine ⟨h3, ?_⟩
  rw [h1, h2]
  have := trim_calls (s := p ++ den s t z) (p := p) (w := w)
  rwa [(trim_eq p (den s t z)).1] at this
theorem chkCutp_ok (h : NmOk K s t θ Kn) {args : List SV} {v : SV} (hc : chkCutp K args v = true) : CallW θ Kn 83 args v w := by
  unfold chkCutp at hc
  split at hc
  · rename_i z'
    obtain ⟨p, z, h1, h2, h3⟩ := chkTrim_eq h hc
    refine ⟨⟨h3, trivial, trivial⟩, ?_⟩
    show Calls _ _ _ _ fun e w' => e = .returned (.tuple #[conc θ z', .bool true]) ∧ _
    rw [h1, h2]
    have := cutp_calls (s := p ++ den s t z) (p := p) (w := w)
    rwa [(trim_eq p (den s t z)).1, (trim_eq p (den s t z)).2] at this
  · cases hc
theorem has_no {l : List UInt8} {c : UInt8} (h : ∀ d r, l = d :: r → d ≠ c) : Lib.hasPrefix l [c] = false := by
  cases l with
  | nil => rfl
  | cons d r =>
    have hd := h d r rfl
    unfold Lib.hasPrefix
    simp only [List.isPrefixOf, Bool.and_true, beq_eq_false_iff_ne]
    exact fun e => hd e.symm
theorem dg_head {n : Nat} (h : n < 256) (r : List UInt8) {c : UInt8} (hc : isDig c = false) : ∀ d r', dg n ++ r = d :: r' → d ≠ c := by
  intro d r' e hd
  obtain ⟨h1, h2, _⟩ := dg_ok h
  cases hg : dg n with
  | nil => rw [hg] at h2; simp at h2
  | cons x l =>
    rw [hg] at e h1
    injection e with e1 e2
    have := h1 x (List.mem_cons_self ..)
    rw [e1, hd, hc] at this
    cases this
theorem headNot_ok (f : Fit K s t) {c : UInt8} {a : List Tok} (h : headNot K c a = true) : Lib.hasPrefix (den s t a) [c] = false := by
  refine has_no ?_
  unfold headNot at h
  split at h
  · rename_i d _r
    rw [Bool.not_eq_true'] at h
    intro d' r e
    rw [den_cons] at e
    injection e with e1 e2
    rw [← e1]
    exact byte_ne h
  · rw [Bool.and_eq_true, Bool.not_eq_true'] at h
    rw [den_cons]
    exact dg_head (by have := upto_le f.sh h.1; omega) _ h.2
  · rw [Bool.and_eq_true, Bool.not_eq_true'] at h
    rw [den_cons]
    exact dg_head (by have := upto_le f.th h.1; omega) _ h.2
  · intro d r e; cases e
  · cases h
theorem chkHas_ok (f : Fit K s t) (h : NmOk K s t θ Kn) {args : List SV} {v : SV} (hc : chkHas K args v = true) : CallW θ Kn 142 args v w := by
  unfold chkHas at hc
  split at hc
  · rename_i x c
    split at hc
    · rename_i a ha
      obtain ⟨hx, _⟩ := toks_ok h ha
      refine ⟨trivial, ?_⟩
      show Calls _ _ #[conc θ x, tv [c]] _ _
      rw [hx]
      have := has_calls (s := den s t a) (p := [c]) (w := w)
      rwa [headNot_ok f hc] at this
    · cases hc
  · cases hc
theorem isLen_ok (f : Fit K s t) {a c : List Tok} (hc : isLen K a c = true) : ∃ n : Nat, n < 256 ∧ (den s t a).length = n ∧ den s t c = dg n := by
  unfold isLen at hc
  simp only [Bool.or_eq_true, Bool.and_eq_true] at hc
  rcases hc with ⟨h1, h2, h3⟩ | ⟨h1, h2, h3⟩
  · have := upto_le f.sh h1
    rw [eqL_eq h2, eqL_eq h3, den_one, den_one]
    exact ⟨s.length, by omega, rfl, rfl⟩
  · have := upto_le f.th h1
    rw [eqL_eq h2, eqL_eq h3, den_one, den_one]
    exact ⟨t.length, by omega, rfl, rfl⟩
theorem chkItoa_ok (f : Fit K s t) (h : NmOk K s t θ Kn) {args : List SV} {v : SV} (hc : chkItoa K args v = true) (hw : WOk w) : CallW θ Kn 59 args v w := by
  unfold chkItoa at hc
  split at hc
  · rename_i i
    split at hc
    · rename_i a c ha hv
      obtain ⟨hx, kx⟩ := toks_ok h hv
      obtain ⟨n, h1, h2, h3⟩ := isLen_ok f hc
      have hn := num_of h ha
      rw [h2] at hn
      refine ⟨kx, ?_⟩
      show Calls _ _ #[conc θ (.num .i64 i)] _ _
      rw [hn, hx, h3]
      exact itoa_calls h1 hw.2
    · cases hc
  · cases hc
theorem chkAtoi_ok (f : Fit K s t) (h : NmOk K s t θ Kn) {args : List SV} {v : SV} (hc : chkAtoi K args v = true) : CallW θ Kn 189 args v w := by
  unfold chkAtoi at hc
  split at hc
  · rename_i x i
    split at hc
    · rename_i a c ha hv
      obtain ⟨hx, kx⟩ := toks_ok h hv
      obtain ⟨n, h1, h2, h3⟩ := isLen_ok f hc
      have hn := num_of h ha
      rw [h2] at hn
      refine ⟨⟨h.kn i (h.nt i a ha).1, trivial, trivial⟩, ?_⟩
      show Calls _ _ #[conc θ x] _ fun e w' => e = .returned (.tuple #[conc θ (.num .i64 i), .nilIface]) ∧ _
      rw [hn, hx, h3]
      exact atoi_calls h1
    · cases hc
  · cases hc
theorem digs {P R : List UInt8} (hP : ∀ b ∈ P, isDig b = true) (hR : ∀ c R', R = c :: R' → isDig c = false) (hs : (P ++ R).length ≤ 1000000) : Calls Tryz.prog 247 #[tv (P ++ R)] w fun e w' => e = .returned (.int .i64 P.length) ∧ Below w.heap.size w w' := by
  refine digits_calls (by rw [List.length_append]; omega) (fun i hi => ?_) (fun hi hd => ?_) hs
  · have : (P ++ R)[i]? = some P[i] := by rw [List.getElem?_append_left hi, List.getElem?_eq_getElem hi]
    show 48 ≤ bAt _ _ ∧ bAt _ _ ≤ 57
    unfold bAt
    rw [Int.toNat_natCast, this]
    exact (isDig_iff P[i]).1 (hP _ (List.getElem_mem hi))
  · cases R with
    | nil => rw [List.append_nil] at hi; omega
    | cons c R' =>
      have hc := hR c R' rfl
      have : (P ++ c :: R')[P.length]? = some c := by rw [List.getElem?_append_right (Nat.le_refl _), Nat.sub_self]; rfl
      have hd : 48 ≤ bAt (P ++ c :: R') (P.length : Int) ∧ bAt (P ++ c :: R') (P.length : Int) ≤ 57 := hd
      unfold bAt at hd
      rw [Int.toNat_natCast, this] at hd
      rw [(isDig_iff c).2 hd] at hc
      cases hc
theorem noDig_ok {r : List Tok} (h : noDig r = true) : ∀ c R', den s t r = c :: R' → isDig c = false := by
  intro c R' e
  unfold noDig at h
  split at h
  · cases e
  · rw [Bool.not_eq_true'] at h
    rw [den_cons] at e
    injection e with e1 e2
    rw [← e1]
    exact h
  · cases h
theorem chkDig_ok (f : Fit K s t) (h : NmOk K s t θ Kn) {args : List SV} {v : SV} (hc : chkDig K args v = true) : CallW θ Kn 247 args v w := by
  unfold chkDig at hc
  split at hc
  · rename_i x
    split at hc
    · rename_i a ha
      obtain ⟨hx, _⟩ := toks_ok h ha
      rw [Bool.and_eq_true] at hc
      obtain ⟨hc0, hc⟩ := hc
      have hl := den_len f hc0
      split at hc
      · rename_i k
        split at hc
        · rename_i p r hp
          obtain ⟨e1, e2⟩ := headB_eq hp
          rw [Bool.and_eq_true, List.all_eq_true] at hc
          rw [e1, den_append, den_bytes] at hx hl
          refine ⟨trivial, ?_⟩
          show Calls _ _ #[conc θ x] _ fun e w' => e = .returned (.int .i64 ((k : Nat) : Int)) ∧ _
          rw [hx, ← e2]
          exact digs hc.1 (noDig_ok hc.2) (by omega)
        · cases hc
      · rename_i i
        split at hc
        · rename_i p hp
          split at hc
          · rename_i r hr
            have e1 := strip_eq hr
            simp only [Bool.and_eq_true, Bool.or_eq_true] at hc
            rw [e1, den_append] at hx hl
            have hd : ∀ b ∈ den s t p, isDig b = true := by
              rcases hc.2 with ⟨h1, h2⟩ | ⟨h1, h2⟩
              · have := upto_le f.sh h1
                rw [eqL_eq h2, den_one]
                exact (dg_ok (n := s.length) (by omega)).1
              · have := upto_le f.th h1
                rw [eqL_eq h2, den_one]
                exact (dg_ok (n := t.length) (by omega)).1
            refine ⟨h.kn i (h.nt i p hp).1, ?_⟩
            show Calls _ _ #[conc θ x] _ fun e w' => e = .returned (conc θ (.num .i64 i)) ∧ _
            rw [hx, num_of h hp]
            exact digs hd (noDig_ok hc.1) (by omega)
          · cases hc
        · cases hc
      · cases hc
    · cases hc
  · cases hc
theorem e1T_ok (f : Fit K s t) {x : Tok} {l : List Tok} (h : e1T K x = some l) : den s t l = rep 92 [92, 92] (Tok.den s t x) := by
  unfold e1T at h
  split at h
  · rename_i c
    obtain rfl := Option.some.inj h
    show _ = rep 92 [92, 92] [c]
    rw [rep_cons]
    cases hb : Nat.beq c.toNat 92 with
    | true =>
      obtain rfl : c = 92 := byte_eq hb
      rfl
    | false =>
      rw [if_neg (byte_ne (d := 92) hb)]
      rfl
  · obtain rfl := Option.some.inj h
    rw [den_one]; rfl
  · obtain rfl := Option.some.inj h
    rw [den_one]; rfl
  · cases hu : upto 255 K.sh with
    | false => rw [hu] at h; cases h
    | true =>
      rw [hu, cond_true] at h
      obtain rfl := Option.some.inj h
      have := upto_le f.sh hu
      rw [den_one]
      exact (rep_no (dg_not (n := s.length) (by omega) rfl)).symm
  · cases hu : upto 255 K.th with
    | false => rw [hu] at h; cases h
    | true =>
      rw [hu, cond_true] at h
      obtain rfl := Option.some.inj h
      have := upto_le f.th hu
      rw [den_one]
      exact (rep_no (dg_not (n := t.length) (by omega) rfl)).symm
  · cases h
theorem e2T_ok (f : Fit K s t) {x : Tok} {l : List Tok} (h : e2T K x = some l) : den s t l = rep 10 [92, 110] (Tok.den s t x) := by
  unfold e2T at h
  split at h
  · rename_i c
    obtain rfl := Option.some.inj h
    show _ = rep 10 [92, 110] [c]
    rw [rep_cons]
    cases hb : Nat.beq c.toNat 10 with
    | true =>
      obtain rfl : c = 10 := byte_eq hb
      rfl
    | false =>
      rw [if_neg (byte_ne (d := 10) hb)]
      rfl
  · obtain rfl := Option.some.inj h
    rw [den_one]; rfl
  · obtain rfl := Option.some.inj h
    rw [den_one]; rfl
  · cases hu : upto 255 K.sh with
    | false => rw [hu] at h; cases h
    | true =>
      rw [hu, cond_true] at h
      obtain rfl := Option.some.inj h
      have := upto_le f.sh hu
      rw [den_one]
      exact (rep_no (dg_not (n := s.length) (by omega) rfl)).symm
  · cases hu : upto 255 K.th with
    | false => rw [hu] at h; cases h
    | true =>
      rw [hu, cond_true] at h
      obtain rfl := Option.some.inj h
      have := upto_le f.th hu
      rw [den_one]
      exact (rep_no (dg_not (n := t.length) (by omega) rfl)).symm
  · cases h
theorem mapT_ok {g : Tok → Option (List Tok)} {c : UInt8} {new : List UInt8} (hg : ∀ x l, g x = some l → den s t l = rep c new (Tok.den s t x)) : ∀ {a y : List Tok}, mapT g a = some y → den s t y = rep c new (den s t a)
  | [], y, h => by obtain rfl := Option.some.inj h; rfl
  | x :: a, y, h => by
    unfold mapT at h
    split at h
    · rename_i p q hp hq
      obtain rfl := Option.some.inj h
      rw [den_append, hg x p hp, mapT_ok hg hq, den_cons, rep_append]
    · cases h
theorem chkRepl_ok (f : Fit K s t) (h : NmOk K s t θ Kn) {args : List SV} {v : SV} (hc : chkRepl K args v = true) (hw : WOk w) : CallW θ Kn 65 args v w := by
  unfold chkRepl at hc
  split at hc
  · rename_i x c d e
    split at hc
    · rename_i a z ha hz
      obtain ⟨hx, _⟩ := toks_ok h ha
      obtain ⟨hv, kv⟩ := toks_ok h hz
      simp only [Bool.and_eq_true, Bool.or_eq_true] at hc
      have hl := den_len f hc.1
      refine ⟨kv, ?_⟩
      show Calls _ _ #[conc θ x, tv [c], tv [d, e]] _ _
      rw [hx, hv]
      rcases hc.2 with ⟨h1, h2, h3, h4⟩ | ⟨h1, h2, h3, h4⟩
      · obtain rfl : c = 92 := byte_eq h1
        obtain rfl : d = 92 := byte_eq h2
        obtain rfl : e = 92 := byte_eq h3
        split at h4
        · rename_i y hy
          have := mapT_ok (c := 92) (new := [92, 92]) (fun x l hx => e1T_ok f hx) hy
          rw [← eqL_eq h4, this]
          exact repl_calls hw.1 (by omega) (by simp) (by decide)
        · cases h4
      · obtain rfl : c = 10 := byte_eq h1
        obtain rfl : d = 92 := byte_eq h2
        obtain rfl : e = 110 := byte_eq h3
        split at h4
        · rename_i y hy
          have := mapT_ok (c := 10) (new := [92, 110]) (fun x l hx => e2T_ok f hx) hy
          rw [← eqL_eq h4, this]
          exact repl_calls hw.1 (by omega) (by simp) (by decide)
        · cases h4
    · cases hc
  · cases hc
theorem chkPlain_ok (f : Fit K s t) (h : NmOk K s t θ Kn) {args : List SV} {v : SV} (hc : chkPlain K args v = true) (hw : WOk w) (h0 : 10 ≤ w.heap.size) : CallW θ Kn 91 args v w := by
  unfold chkPlain at hc
  split at hc
  · rename_i x z
    split at hc
    · rename_i a c r ha hz
      obtain ⟨hx, _⟩ := toks_ok h ha
      obtain ⟨hv, kv⟩ := toks_ok h hz
      simp only [Bool.and_eq_true, Bool.not_eq_true'] at hc
      obtain ⟨h1, h2, h3, h4⟩ := hc
      have hl := den_len f h1
      split at h4
      · rename_i y hy
        split at h4
        · rename_i y2 hy2
          have e1 := mapT_ok (c := 92) (new := [92, 92]) (fun x l hx => e1T_ok f hx) hy
          have e2 := mapT_ok (c := 10) (new := [92, 110]) (fun x l hx => e2T_ok f hx) hy2
          have he : den s t a = esc (den s t (.b c :: r)) := by rw [← eqL_eq h4, e2, e1]; rfl
          refine ⟨⟨kv, trivial, trivial⟩, ?_⟩
          show Calls _ _ #[conc θ x] _ fun e w' => e = .returned (.tuple #[conc θ z, .bool true]) ∧ _
          rw [hx, hv, he]
          exact plain_calls (a := c) (l := den s t r) (byte_ne h2) (byte_ne h3) (by show (den s t (.b c :: r)).length ≤ _; omega) hw h0
        · cases h4
      · cases h4
    · cases hc
  · cases hc
theorem chkCall_ok (f : Fit K s t) (h : NmOk K s t θ Kn) {r : CRow} (hc : chkCall K r = true) (hw : WOk w) (h0 : 10 ≤ w.heap.size) : (∃ fn c, Tryz.prog.funcs[r.f]? = some fn ∧ fn.body = some c) ∧ CallW θ Kn r.f r.args r.v w := by
  obtain ⟨g, args, v⟩ := r
  unfold chkCall at hc
  simp only [Bool.or_eq_true, Bool.and_eq_true] at hc
  rcases hc with ⟨e, hc⟩ | ⟨e, hc⟩ | ⟨e, hc⟩ | ⟨e, hc⟩ | ⟨e, hc⟩ | ⟨e, hc⟩ | ⟨e, hc⟩ | ⟨e, hc⟩ | ⟨e, hc⟩
  · obtain rfl := Nat.eq_of_beq_eq_true e; exact ⟨⟨_, _, Tryz.func16, rfl⟩, chkCut_ok f h hc hw⟩
  · obtain rfl := Nat.eq_of_beq_eq_true e; exact ⟨⟨_, _, Tryz.func64, rfl⟩, chkTrim_ok h hc⟩
  · obtain rfl := Nat.eq_of_beq_eq_true e; exact ⟨⟨_, _, Tryz.func83, rfl⟩, chkCutp_ok h hc⟩
  · obtain rfl := Nat.eq_of_beq_eq_true e; exact ⟨⟨_, _, Tryz.func142, rfl⟩, chkHas_ok f h hc⟩
  · obtain rfl := Nat.eq_of_beq_eq_true e; exact ⟨⟨_, _, Tryz.func59, rfl⟩, chkItoa_ok f h hc hw⟩
  · obtain rfl := Nat.eq_of_beq_eq_true e; exact ⟨⟨_, _, Tryz.func189, rfl⟩, chkAtoi_ok f h hc⟩
  · obtain rfl := Nat.eq_of_beq_eq_true e; exact ⟨⟨_, _, Tryz.func247, rfl⟩, chkDig_ok f h hc⟩
  · obtain rfl := Nat.eq_of_beq_eq_true e; exact ⟨⟨_, _, Tryz.func65, rfl⟩, chkRepl_ok f h hc hw⟩
  · obtain rfl := Nat.eq_of_beq_eq_true e; exact ⟨⟨_, _, Tryz.func91, rfl⟩, chkPlain_ok f h hc hw h0⟩
end
end Go.Proofs.YtcpigoljjbhkkaaGreatDoor.ft
