/-
  AN ABSTRACT EVALUATOR OF THE MODEL'S CODE, by the author of this claim: values in which blocks are named by small numbers, a heap of known blocks, and one step function; the next texts prove it sound. Of any program; no condition.
-/
import Derived.RangeFuncLeaves
import Derived.OrdersIn
import Derived.Below
import Derived.KernelRfl
namespace Go.Proofs.YthjkejnmjbljfaaGreatDoor.Ev
open Go Go.RowKit

/-! ### a map from numbers, as a tree -/
inductive T (α : Type) where
  | leaf
  | node (l : T α) (v : Option α) (r : T α)

def T.get {α : Type} : T α → Nat → Option α
  | .leaf, _ => none
  | .node l v r, n => bif Nat.beq n 0 then v else bif Nat.beq (n % 2) 1 then l.get (n / 2) else r.get (n / 2 - 1)

def T.left {α : Type} : T α → T α
  | .leaf => .leaf
  | .node l _ _ => l
def T.here {α : Type} : T α → Option α
  | .leaf => none
  | .node _ v _ => v
def T.right {α : Type} : T α → T α
  | .leaf => .leaf
  | .node _ _ r => r

def T.putF {α : Type} (o : Option α) : Nat → T α → Nat → T α
  | 0, t, _ => .node t.left o t.right
  | f + 1, t, n => bif Nat.beq n 0 then .node t.left o t.right
      else bif Nat.beq (n % 2) 1 then .node (T.putF o f t.left (n / 2)) t.here t.right
      else .node t.left t.here (T.putF o f t.right (n / 2 - 1))
def T.put {α : Type} (t : T α) (n : Nat) (o : Option α) : T α := T.putF o n t n
def T.set {α : Type} (t : T α) (n : Nat) (a : α) : T α := t.put n (some a)
def T.ofList {α : Type} : List α → Nat → T α → T α
  | [], _, t => t
  | a :: l, k, t => T.ofList l (k + 1) (t.set k a)

/-! ### values -/
inductive SV where
  | lit (v : Value)
  | ptr (b off : Nat)
  | slice (b off len cap : Nat)
  | row (b off len k cv : Nat)
  | map (b : Nat)
  | func (fn : Fn) (first captured : List SV)
  | yield (b : Nat)
  | iface (t : TypeId) (v : SV)
  | agg (l : List SV)
  | tuple (l : List SV)
  | num (k : IntKind) (i : Nat)
  | opq (i : Nat)
  | tail (b o1 o2 cv : Nat)
  deriving Inhabited

mutual
def SV.toLit : SV → Option Value
  | .lit v => some v
  | .agg l => match SV.toLitL l with
    | some vs => some (.agg vs.toArray)
    | none => none
  | .tuple l => match SV.toLitL l with
    | some vs => some (.tuple vs.toArray)
    | none => none
  | .iface t v => match v.toLit with
    | some x => some (.iface t x)
    | none => none
  | _ => none
def SV.toLitL : List SV → Option (List Value)
  | [] => some []
  | v :: l => match v.toLit, SV.toLitL l with
    | some x, some xs => some (x :: xs)
    | _, _ => none
end

def SV.cells : SV → List SV
  | .agg l => l
  | .lit (.agg cs) => cs.toList.map .lit
  | v => [v]

/-! ### the heap -/
structure ALoop where
  state : LoopState
  pending : Option Code
  fn : FuncId
  tmps : T SV
  sz : Nat
  params : Array Tmp
  assign : Code
  body : Code
  defers : Nat

inductive AObj where
  | cells (l : List SV) (elem : TypeId)
  | row (l : List SV) (elem : TypeId) (k cv size : Nat)
  | map (es : List (SV × SV × Nat)) (clock : Nat)
  | strIter (s : ByteArray) (pos : Nat)
  | mapIter (m : Option Nat) (since : Nat) (seen : List Nat) (stepped : Nat)
  | loop (l : ALoop)
  | deferred (here : Bool)

structure Hp where
  objs : T AObj
  next : Nat

structure Fr where
  tmps : T SV
  sz : Nat
  marks : List Nat

def Hp.new (h : Hp) (o : AObj) : Nat × Hp := (h.next, ⟨h.objs.set h.next o, h.next + 1⟩)
def Hp.upd (h : Hp) (b : Nat) (o : AObj) : Hp := ⟨h.objs.set b o, h.next⟩

def Fr.ev (f : Fr) : Operand → SV
  | .tmp t => match f.tmps.get t with
    | some v => v
    | none => .lit undef
  | .const v => .lit v
  | .global g => .lit (.pointer (some ⟨g, 0, none⟩))
  | .func g => .lit (.func (.func g) #[] #[])

/-- What a temporary gets; no such temporary: none. -/
def Fr.put (f : Fr) (dst : Option Tmp) (v : SV) : Option Fr :=
  match dst with
  | none => some f
  | some d => bif Nat.blt d f.sz then some { f with tmps := f.tmps.set d v } else none

/-! ### what needs no memory: the model's own word -/
def pureRun {α : Type} (P : Program) : Sem α → Option α
  | .pure a => some a
  | .program k => pureRun P (k P)
  | .mark _ k => pureRun P k
  | _ => none

/-! ### types -/
def tyU (P : Program) (t : TypeId) : Option TypeDesc := P.underlying t
def tySize (P : Program) (t : TypeId) : Option Nat := (P.info? t).map (·.size)
def tyZero (P : Program) (t : TypeId) : Option Value := (P.info? t).bind (·.zero)
def tyAgg (P : Program) (t : TypeId) : Option Bool :=
  match P.underlying t with
  | some (.struct _) | some (.array _ _) => some true
  | some _ => some false
  | none => none

/-! ### lists of cells -/
/-- The n cells from off on, if they are there. -/
def cut (l : List SV) (off n : Nat) : Option (List SV) :=
  let r := (l.drop off).take n
  bif Nat.beq r.length n then some r else none
/-- Is it the value of one cell? -/
def SV.one : SV → Bool
  | .agg _ => false
  | .tuple _ => false
  | .lit (.agg _) => false
  | .lit (.tuple _) => false
  | _ => true
/-- l with vs from off on, if that is within. -/
def splice (l : List SV) (off : Nat) (vs : List SV) : Option (List SV) :=
  bif Nat.ble (off + vs.length) l.length && vs.all SV.one then some (l.take off ++ vs ++ l.drop (off + vs.length)) else none

/-! ### facts that a quiet operation leans on -/
inductive Fact where
  | cells (b off : Nat) (vs : List SV)
  | obj (b : Nat) (o : AObj)

/-- What the blocks below are known to hold. -/
abbrev Glob := T (List Value)

def knownCells (h : Hp) (b : Nat) : Option (List SV) :=
  match h.objs.get b with
  | some (.cells l _) => some l
  | some (.row l _ _ _ _) => some l
  | _ => none

/-- n cells at an address. -/
def readCells (Γ : Glob) (h : Hp) (p : SV) (n : Nat) : Option (List SV × List Fact) :=
  match p with
  | .ptr b off => match (knownCells h b).bind (cut · off n) with
    | some vs => some (vs, [.cells b off vs])
    | none => none
  | .lit (.pointer (some ⟨g, off, none⟩)) => match (Γ.get g).bind fun cs => cut (cs.map .lit) off n with
    | some vs => some (vs, [])
    | none => none
  | _ => none

def loadQ (P : Program) (Γ : Glob) (h : Hp) (t : TypeId) (p : SV) : Option (SV × List Fact) :=
  match tyAgg P t with
  | some true => match tySize P t with
    | some n => match readCells Γ h p n with
      | some (vs, fs) => some (.agg vs, fs)
      | none => none
    | none => none
  | some false => match readCells Γ h p 1 with
    | some ([v], fs) => some (v, fs)
    | _ => none
  | none => none

def partQ (P : Program) (t : TypeId) (l : List SV) (off : Nat) : Option SV :=
  match tyAgg P t with
  | some true => match tySize P t with
    | some n => (cut l off n).map .agg
    | none => none
  | some false => l[off]?
  | none => none

def fillQ (place : Nat → Option (Nat × Nat)) (l : List SV) : List (Nat × SV) → Option (List SV)
  | [] => some l
  | (i, v) :: rest => match place i with
    | none => none
    | some (off, size) => bif Nat.beq v.cells.length size then (match splice l off v.cells with
      | some l' => fillQ place l' rest
      | none => none) else none

def sizesQ (P : Program) : List Field → Option (List (Nat × Nat))
  | [] => some []
  | f :: fs => match tySize P f.type, sizesQ P fs with
    | some s, some r => some ((f.offset, s) :: r)
    | _, _ => none

def buildQ (P : Program) (t : TypeId) (parts : List (Nat × SV)) : Option SV :=
  match tyZero P t, tyU P t with
  | some z, some (.struct fields) => match sizesQ P fields.toList with
    | some places => (fillQ (places[·]?) (SV.cells (.lit z)) parts).map .agg
    | none => none
  | some z, some (.array _ e) => match tySize P e with
    | some size => (fillQ (fun i => some (i * size, size)) (SV.cells (.lit z)) parts).map .agg
    | none => none
  | _, _ => none

def addrQ (p : SV) (n : Nat) : Option SV :=
  match p with
  | .ptr b off => some (.ptr b (off + n))
  | .lit (.pointer (some ⟨g, off, none⟩)) => some (.lit (.pointer (some ⟨g, off + n, none⟩)))
  | _ => none

def fieldAddrQ (P : Program) (s : TypeId) (p : SV) (i : Nat) : Option SV :=
  match tyU P s with
  | some (.struct fields) => match fields[i]? with
    | some f => match tySize P f.type with
      | some (_ + 1) => addrQ p f.offset
      | _ => none
    | none => none
  | _ => none

/-- An index within a length. -/
def idxQ (v : SV) (len : Nat) : Option Nat :=
  match v with
  | .lit (.int _ (.ofNat i)) => bif Nat.blt i len then some i else none
  | _ => none

def indexAddrQ (P : Program) (t : TypeId) (x i : SV) : Option SV :=
  match tyU P t, x with
  | some (.array len e), x => match tySize P e, idxQ i len with
    | some s, some k => addrQ x (k * s)
    | _, _ => none
  | some (.slice e), .slice b off len _ => match tySize P e, idxQ i len with
    | some s, some k => some (.ptr b (off + k * s))
    | _, _ => none
  | some (.slice e), .row b off len _ _ => match tySize P e, idxQ i len with
    | some s, some k => some (.ptr b (off + k * s))
    | _, _ => none
  | some (.slice e), .lit (.slice (some ⟨g, off, none⟩) len _) => match tySize P e, idxQ i len with
    | some s, some k => some (.lit (.pointer (some ⟨g, off + k * s, none⟩)))
    | _, _ => none
  | _, _ => none

def indexQ (P : Program) (t : TypeId) (x i : SV) : Option SV :=
  match tyU P t, x with
  | some (.array len e), .agg l => match tySize P e, idxQ i len with
    | some s, some k => partQ P e l (k * s)
    | _, _ => none
  | _, x => match x.toLit, i.toLit with
    | some a, some b => (pureRun P (Instr.index t a b)).map .lit
    | _, _ => none

/-- A value that is no nil, and whose make the model's nilCheck lets by. -/
def nonNil : SV → Bool
  | .lit (.pointer (some _)) | .lit (.func (.func _) _ _) => true
  | .ptr _ _ | .func (.func _) _ _ | .yield _ => true
  | _ => false

/-- == of a reference against nil, and of two pointers into one block. -/
def refEq (P : Program) (t : TypeId) (x y : SV) : Option Bool :=
  match tyU P t, x, y with
  | some (.pointer _), .ptr _ _, .lit (.pointer none) => some false
  | some (.pointer _), .lit (.pointer none), .ptr _ _ => some false
  | some (.pointer e), .ptr b o, .ptr b' o' => match tySize P e with
    | some (_ + 1) => bif Nat.beq b b' then some (Nat.beq o o') else none
    | _ => none
  | some (.slice _), .slice _ _ _ _, .lit (.slice none _ _) => some false
  | some (.slice _), .lit (.slice none _ _), .slice _ _ _ _ => some false
  | some (.slice _), .row _ _ _ _ _, .lit (.slice none _ _) => some false
  | some (.slice _), .lit (.slice none _ _), .row _ _ _ _ _ => some false
  | some (.map _ _), .map _, .lit (.map none) => some false
  | some (.map _ _), .lit (.map none), .map _ => some false
  | some (.func _ _ _), .func _ _ _, .lit .nilFunc => some false
  | some (.func _ _ _), .yield _, .lit .nilFunc => some false
  | _, _, _ => none

def litBool (b : Bool) : SV := .lit (.bool b)

def binQ (P : Program) (op : BinOp) (t : TypeId) (xo yo : Operand) (x y : SV) : Option SV :=
  match x.toLit, y.toLit with
  | some a, some b => (pureRun P (do eqGuard op t xo yo a b; binOp op t a b)).map .lit
  | _, _ => match op with
    | .eql => (refEq P t x y).map litBool
    | .neq => (refEq P t x y).map fun b => litBool !b
    | _ => none

/-- The bounds of a slice expression. -/
def boundQ (v : Option SV) (dflt most : Nat) : Option Nat :=
  match v with
  | none => some dflt
  | some (.lit (.int _ (.ofNat i))) => bif Nat.ble i most then some i else none
  | _ => none

def sliceQ (P : Program) (t : TypeId) (x : SV) (lo hi mx : Option SV) : Option SV :=
  match tyU P t, x, mx with
  | some (.slice e), .slice b off len cap, none => match tySize P e, boundQ hi len cap with
    | some s, some h => match boundQ lo 0 h with
      | some l => some (.slice b (bif Nat.beq cap l then off else off + l * s) (h - l) (cap - l))
      | none => none
    | _, _ => none
  | some (.slice e), .row b off len k cv, none => match tySize P e, boundQ hi len k with
    | some s, some h => match boundQ lo 0 h with
      | some l => bif Nat.blt l k then some (.row b (off + l * s) (h - l) (k - l) cv) else bif Nat.beq l 0 then some (.row b off h k cv) else bif Nat.beq l k && Nat.beq h k then some (.tail b off (off + l * s) cv) else none
      | none => none
    | _, _ => none
  | some (.slice e), .slice b off _ cap, some m => match tySize P e, boundQ (some m) 0 cap with
    | some s, some m => match hi, boundQ hi 0 m with
      | some _, some h => match boundQ lo 0 h with
        | some l => some (.slice b (bif Nat.beq m l then off else off + l * s) (h - l) (m - l))
        | none => none
      | _, _ => none
    | _, _ => none
  | some (.slice e), .row b off _ k _, some m => match tySize P e, boundQ (some m) 0 k with
    | some s, some m => match hi, boundQ hi 0 m with
      | some _, some h => match boundQ lo 0 h with
        | some l => some (.slice b (bif Nat.beq m l then off else off + l * s) (h - l) (m - l))
        | none => none
      | _, _ => none
    | _, _ => none
  | some (.array n e), .ptr b off, none => match tySize P e, boundQ hi n n with
    | some s, some h => match boundQ lo 0 h with
      | some l => some (.slice b (bif Nat.beq n l then off else off + l * s) (h - l) (n - l))
      | none => none
    | _, _ => none
  | _, .lit a, none => match lo, hi with
    | none, none => (pureRun P (Instr.sliceAt t a none none none)).map .lit
    | some (.lit l), none => (pureRun P (Instr.sliceAt t a (some l) none none)).map .lit
    | none, some (.lit h) => (pureRun P (Instr.sliceAt t a none (some h) none)).map .lit
    | some (.lit l), some (.lit h) => (pureRun P (Instr.sliceAt t a (some l) (some h) none)).map .lit
    | _, _ => none
  | _, .lit a, some (.lit m) => match lo, hi with
    | none, some (.lit h) => (pureRun P (Instr.sliceAt t a none (some h) (some m))).map .lit
    | some (.lit l), some (.lit h) => (pureRun P (Instr.sliceAt t a (some l) (some h) (some m))).map .lit
    | _, _ => none
  | _, _, _ => none

/-- The place of a key among a map's entries: the model's own word on each. -/
def findQ (P : Program) (kt : TypeId) (k : Value) : List (SV × SV × Nat) → Nat → Option (Option (Nat × SV))
  | [], _ => some none
  | (k', v, _) :: es, i => match k'.toLit with
    | some x => match pureRun P (Op.equal kt k x) with
      | some true => some (some (i, v))
      | some false => findQ P kt k es (i + 1)
      | none => none
    | none => none

def entriesQ (h : Hp) (m : SV) : Option (List (SV × SV × Nat) × List Fact) :=
  match m with
  | .lit (.map none) => some ([], [])
  | .map b => match h.objs.get b with
    | some (.map es c) => some (es, [.obj b (.map es c)])
    | _ => none
  | _ => none

def lookupQ (P : Program) (h : Hp) (t : TypeId) (m k : SV) (ok : Bool) : Option (SV × List Fact) :=
  match tyU P t, entriesQ h m, k.toLit with
  | some (.map kt et), some (es, fs), some kv =>
    match pureRun P (Instr.checkKey es.isEmpty 10000 kt kv), findQ P kt kv es 0 with
    | some _, some (some (_, v)) => some (bif ok then .tuple [v, litBool true] else v, fs)
    | some _, some none => match tyZero P et with
      | some z => some (bif ok then .tuple [.lit z, litBool false] else .lit z, fs)
      | none => none
    | _, _ => none
  | _, _, _ => none

def lenQ (P : Program) (h : Hp) (t : TypeId) (x : SV) : Option (SV × List Fact) :=
  match tyU P t, x with
  | some (.slice _), .slice _ _ n _ => some (.lit (goInt n), [])
  | some (.slice _), .row _ _ n _ _ => some (.lit (goInt n), [])
  | some (.map _ _), .map b => match h.objs.get b with
    | some (.map es c) => some (.lit (goInt es.length), [.obj b (.map es c)])
    | _ => none
  | _, x => match x.toLit with
    | some a => match pureRun P (Builtin.len_ #[t] 0 #[a]) with
      | some v => some (.lit v, [])
      | none => none
    | none => none

def bytesQ : List SV → Option (List UInt8)
  | [] => some []
  | .lit (.int .u8 n) :: l => match bytesQ l with
    | some r => some (UInt8.ofNat n.toNat :: r)
    | none => none
  | _ :: _ => none

def convertQ (P : Program) (Γ : Glob) (h : Hp) (s d : TypeId) (x : SV) : Option (SV × List Fact) :=
  match tyU P s, tyU P d, x with
  | some (.slice e), some .string, .slice b off len _ => match tyU P e, readCells Γ h (.ptr b off) len with
    | some (.int .u8), some (vs, fs) => match bytesQ vs with
      | some bs => some (.lit (.string ⟨bs.toArray⟩), fs)
      | none => none
    | _, _ => none
  | some (.slice e), some .string, .row b off len _ _ => match tyU P e, readCells Γ h (.ptr b off) len with
    | some (.int .u8), some (vs, fs) => match bytesQ vs with
      | some bs => some (.lit (.string ⟨bs.toArray⟩), fs)
      | none => none
    | _, _ => none
  | _, _, x => match x.toLit with
    | some a => match pureRun P (convert s d a) with
      | some v => some (.lit v, [])
      | none => none
    | none => none

def one (o : Option SV) : Option (SV × List Fact) := o.map fun v => (v, [])

/-- What an interface's value holds, if it is of a type. -/
def assertQ (P : Program) (t : TypeId) (ok : Bool) (x : SV) : Option SV :=
  match tyU P t with
  | none => none
  | some (.interface _) => none
  | some _ => match x with
    | .iface t' v => bif Nat.beq t' t then some (bif ok then .tuple [v, litBool true] else v) else bif ok then (tyZero P t).map fun z => .tuple [.lit z, litBool false] else none
    | .lit (.iface t' v) => bif Nat.beq t' t then some (bif ok then .tuple [.lit v, litBool true] else .lit v) else bif ok then (tyZero P t).map fun z => .tuple [.lit z, litBool false] else none
    | .lit .nilIface => bif ok then (tyZero P t).map fun z => .tuple [.lit z, litBool false] else none
    | _ => none

/-- An operation that leaves the memory as it is: the value that it yields, and what it leans on. -/
def quiet (P : Program) (Γ : Glob) (h : Hp) (ρ : Operand → SV) (op : Op) : Option (SV × List Fact) :=
  match op with
  | .move x | .assign x => some (ρ x, [])
  | .pick c a b => match ρ c with
    | .lit (.bool t) => some (bif t then ρ a else ρ b, [])
    | _ => none
  | .load t a => loadQ P Γ h t (ρ a)
  | .nilCheck x => bif nonNil (ρ x) then some (ρ x, []) else none
  | .fieldAddr s x i => one (fieldAddrQ P s (ρ x) i)
  | .indexAddr t x i => one (indexAddrQ P t (ρ x) (ρ i))
  | .field t x i => match tyU P t with
    | some (.struct fields) => match fields[i]?, ρ x with
      | some f, .agg l => one (partQ P f.type l f.offset)
      | some f, .lit (.agg cs) => one (partQ P f.type (cs.toList.map .lit) f.offset)
      | _, _ => none
    | _ => none
  | .index t x i => one (indexQ P t (ρ x) (ρ i))
  | .extract x i => match ρ x with
    | .tuple l => one l[i]?
    | .lit (.tuple vs) => one ((vs[i]?).map .lit)
    | _ => none
  | .build t parts => one (buildQ P t (parts.toList.map fun p => (p.1, ρ p.2)))
  | .makeFunc fn first captured => some (.func fn (first.toList.map ρ) (captured.toList.map ρ), [])
  | .makeInterface t x => match tyU P t with
    | some (.interface _) => none
    | some _ => some (.iface t (ρ x), [])
    | none => none
  | .binOp op t x y _ => one (binQ P op t x y (ρ x) (ρ y))
  | .unOp op _ x => match (ρ x).toLit with
    | some a => one ((pureRun P (Op.unary op a)).map .lit)
    | none => none
  | .convert s d x => (convertQ P Γ h s d (ρ x))
  | .slice t x lo hi mx => one (sliceQ P t (ρ x) (lo.map ρ) (hi.map ρ) (mx.map ρ))
  | .lookup t m k ok => (lookupQ P h t (ρ m) (ρ k) ok)
  | .typeAssert x _ t ok => one (assertQ P t ok (ρ x))
  | .call ⟨.builtin .len, args, argTypes⟩ => match args[0]?, argTypes[0]? with
    | some x, some t => (lenQ P h t (ρ x))
    | _, _ => none
  | .call ⟨.builtin .max, args, argTypes⟩ => match SV.toLitL (args.toList.map ρ) with
    | some vs => one ((pureRun P (Builtin.max_ argTypes 0 vs.toArray)).map .lit)
    | none => none
  | .call ⟨.builtin .min, args, argTypes⟩ => match SV.toLitL (args.toList.map ρ) with
    | some vs => one ((pureRun P (Builtin.min_ argTypes 0 vs.toArray)).map .lit)
    | none => none
  | _ => none

/-! ### operations that turn the memory -/
def repeatL (z : List SV) : Nat → List SV
  | 0 => []
  | n + 1 => z ++ repeatL z n

def storeE (P : Program) (h : Hp) (t : TypeId) (p v : SV) : Option Hp :=
  match tySize P t, p with
  | some n, .ptr b off => bif Nat.beq v.cells.length n then
      (match h.objs.get b with
       | some (.cells l e) => (splice l off v.cells).map fun l' => h.upd b (.cells l' e)
       | some (.row l e k cv s) => (splice l off v.cells).map fun l' => h.upd b (.row l' e k cv s)
       | _ => none)
    else none
  | _, _ => none

def buildSliceE (P : Program) (h : Hp) (t : TypeId) (len : Nat) (parts : List (Nat × SV)) : Option (SV × Hp) :=
  match tyU P t with
  | some (.slice e) => match tySize P e, tyZero P e with
    | some size, some z => bif Nat.ble (len * size) 16777216 && Nat.beq (SV.cells (.lit z)).length size then
        (match fillQ (fun i => some (i * size, size)) (bif Nat.beq (len * size) 0 then [] else repeatL (SV.cells (.lit z)) len) parts with
         | some l => let r := h.new (.cells l e); some (.slice r.1 0 len len, r.2)
         | none => none)
      else none
    | _, _ => none
  | _ => none

def makeSliceE (P : Program) (h : Hp) (t : TypeId) (len cap : SV) : Option (SV × Hp) :=
  match tyU P t, len, cap with
  | some (.slice e), .lit (.int _ (.ofNat l)), .lit (.int _ (.ofNat c)) => match P.info? e with
    | some i => match i.zero with
      | some z => bif Nat.ble l c && Nat.ble (i.bytes * c) 1048576 && Nat.ble c 1048576 && Nat.beq (SV.cells (.lit z)).length i.size then
          let r := h.new (.cells (bif Nat.beq (c * i.size) 0 then [] else repeatL (SV.cells (.lit z)) c) e)
          some (.slice r.1 0 l c, r.2)
        else none
      | none => none
    | none => none
  | _, _, _ => none

def setEntry : List (SV × SV × Nat) → Nat → SV → SV → List (SV × SV × Nat)
  | [], _, _, _ => []
  | (_, _, c) :: es, 0, k, v => (k, v, c) :: es
  | e :: es, i + 1, k, v => e :: setEntry es i k v

def mapUpdateE (P : Program) (h : Hp) (t : TypeId) (m k v : SV) : Option Hp :=
  match tyU P t, m, k.toLit with
  | some (.map kt _), .map b, some kv => match h.objs.get b with
    | some (.map es c) => match pureRun P (Instr.checkKey false 10000 kt kv), findQ P kt kv es 0 with
      | some _, some (some (i, _)) => match (es[i]?).bind fun e => e.1.toLit with
        | some old => bif Instr.sameBits 10000 old kv then some (h.upd b (.map (setEntry es i k v) c)) else none
        | none => none
      | some _, some none => some (h.upd b (.map (es ++ [(k, v, c)]) (c + 1)))
      | _, _ => none
    | _ => none
  | _, _, _ => none

def deleteE (P : Program) (h : Hp) (t : TypeId) (m k : SV) : Option Hp :=
  match tyU P t, m, k.toLit with
  | some (.map kt _), .lit (.map none), some kv => match pureRun P (Instr.checkKey true 10000 kt kv) with
    | some _ => some h
    | none => none
  | some (.map kt _), .map b, some kv => match h.objs.get b with
    | some (.map es c) => match pureRun P (Instr.checkKey es.isEmpty 10000 kt kv), findQ P kt kv es 0 with
      | some _, some (some (i, _)) => some (h.upd b (.map (es.eraseIdx i) c))
      | some _, some none => some (h.upd b (.map es c))
      | _, _ => none
    | _ => none
  | _, _, _ => none

def clearE (P : Program) (h : Hp) (t : TypeId) (x : SV) : Option Hp :=
  match tyU P t, x with
  | some (.slice _), .lit (.slice none _ _) => some h
  | some (.slice e), .slice b off n _ => match tyZero P e, Nat.beq n 0 with
    | _, true => some h
    | some z, false => match h.objs.get b with
      | some (.cells l e') => (splice l off (repeatL (SV.cells (.lit z)) n)).map fun l' => h.upd b (.cells l' e')
      | some (.row l e' k cv s) => (splice l off (repeatL (SV.cells (.lit z)) n)).map fun l' => h.upd b (.row l' e' k cv s)
      | _ => none
    | none, _ => none
  | some (.slice e), .row b off n _ _ => match tyZero P e, Nat.beq n 0 with
    | _, true => some h
    | some z, false => match h.objs.get b with
      | some (.cells l e') => (splice l off (repeatL (SV.cells (.lit z)) n)).map fun l' => h.upd b (.cells l' e')
      | some (.row l e' k cv s) => (splice l off (repeatL (SV.cells (.lit z)) n)).map fun l' => h.upd b (.row l' e' k cv s)
      | _ => none
    | none, _ => none
  | _, _ => none

/-- The elements that are appended or copied: cells, and how many. -/
def srcCells (Γ : Glob) (h : Hp) (size : Nat) (x : SV) : Option (List SV × Nat) :=
  match x with
  | .lit (.slice none 0 _) => some ([], 0)
  | .lit (.string s) => some (s.data.toList.map fun b => .lit (.int .u8 b.toNat), s.size)
  | .slice b off n _ => match readCells Γ h (.ptr b off) (n * size) with
    | some (vs, _) => some (vs, n)
    | none => none
  | .row b off n _ _ => match readCells Γ h (.ptr b off) (n * size) with
    | some (vs, _) => some (vs, n)
    | none => none
  | _ => none

/-- A row of its own with these cells, its capacity unknown. -/
def newRowE (h : Hp) (l : List SV) (e : TypeId) (len size : Nat) : SV × Hp :=
  (.row h.next 0 len len h.next, ⟨h.objs.set h.next (.row l e len h.next size), h.next + 1⟩)

def isIntD : TypeDesc → Bool
  | .int _ => true
  | _ => false

def appendE (P : Program) (Γ : Glob) (h : Hp) (tys : List TypeId) (s x : SV) : Option (SV × Hp) :=
  match tys with
  | [st, xt] => match tyU P st, tyU P xt with
    | some (.slice e), some xd => bif isIntD xd then none else match P.info? e with
      | none => none
      | some i => match i.zero, srcCells Γ h i.size x with
        | some z, some (news, n) => bif Nat.ble i.bytes 1000 && Nat.ble n 2000000 && Nat.blt 0 i.size && Nat.beq (SV.cells (.lit z)).length i.size && Nat.beq news.length (n * i.size) then
            (match s with
            | .lit (.slice none 0 0) => bif Nat.beq n 0 then some (s, h) else some (newRowE h news e n i.size)
            | .row b 0 len k cv => bif Nat.ble len 2000000 then (match h.objs.get b with
                | some (.row l e' k' cv' size') => bif Nat.beq cv cv' && Nat.beq k k' && Nat.ble len k && Nat.beq size' i.size && Nat.beq e e' && Nat.ble (len * i.size) l.length && news.all SV.one then
                    (bif Nat.beq n 0 then some (s, h)
                     else some (newRowE ⟨h.objs.put b none, h.next⟩ (l.take (len * i.size) ++ news) e (len + n) i.size))
                  else none
                | _ => none) else none
            | .slice b off len cap => bif Nat.ble cap 2000000 && Nat.ble len cap then
                (bif Nat.ble (len + n) cap then
                  (match h.objs.get b with
                   | some (.cells l e') => (splice l (off + len * i.size) news).map fun l' => (.slice b off (len + n) cap, h.upd b (.cells l' e'))
                   | _ => none)
                 else (match readCells Γ h (.ptr b off) (len * i.size) with
                   | some (olds, _) => some (newRowE h (olds ++ news) e (len + n) i.size)
                   | none => none)) else none
            | _ => none) else none
        | _, _ => none
    | _, _ => none
  | _ => none

def copyE (P : Program) (Γ : Glob) (h : Hp) (t : TypeId) (d s : SV) : Option (SV × Hp) :=
  match tyU P t with
  | some (.slice e) => match tySize P e with
    | some size => match srcCells Γ h size s, d with
      | some (_, _), .lit (.slice none 0 _) => some (.lit (goInt 0), h)
      | some (vs, n), .slice b off dlen _ => let k := Nat.min n dlen
        match h.objs.get b with
        | some (.cells l e') => bif Nat.beq vs.length (n * size) then (splice l off (vs.take (k * size))).map fun l' => (.lit (goInt k), h.upd b (.cells l' e')) else none
        | _ => none
      | some (vs, n), .row b off dlen _ _ => let k := Nat.min n dlen
        match h.objs.get b with
        | some (.row l e' k' cv s) => bif Nat.beq vs.length (n * size) then (splice l off (vs.take (k * size))).map fun l' => (.lit (goInt k), h.upd b (.row l' e' k' cv s)) else none
        | _ => none
      | _, _ => none
    | none => none
  | _ => none

def rangeE (P : Program) (h : Hp) (t : TypeId) (x : SV) : Option (SV × Hp) :=
  match tyU P t, x with
  | some .string, .lit (.string s) => let r := h.new (.strIter s 0); some (.ptr r.1 0, r.2)
  | some (.map _ _), .lit (.map none) => let r := h.new (.mapIter none 0 [] 0); some (.ptr r.1 0, r.2)
  | some (.map _ _), .map b => match h.objs.get b with
    | some (.map _ c) => let r := h.new (.mapIter (some b) c [] c); some (.ptr r.1 0, r.2)
    | _ => none
  | _, _ => none

def leftOf (es : List (SV × SV × Nat)) (seen : List Nat) : List (SV × SV × Nat) := es.filter fun e => !seen.contains e.2.2

def nextE (h : Hp) (it : SV) (isString : Bool) : Option (List (SV × Hp)) :=
  match it, isString with
  | .ptr b 0, true => match h.objs.get b with
    | some (.strIter s pos) => bif Nat.blt pos s.size then
        (let d := Utf8.decode s pos
         some [(.tuple [litBool true, .lit (goInt pos), .lit (.int .i32 d.1)], h.upd b (.strIter s (pos + d.2)))])
      else some [(.tuple [litBool false], h)]
    | _ => none
  | .ptr b 0, false => match h.objs.get b with
    | some (.mapIter none _ _ _) => some [(.tuple [litBool false], h)]
    | some (.mapIter (some m) since seen last) => match h.objs.get m with
      | some (.map es clock) =>
        bif (!seen.isEmpty && !es.isEmpty && es.all fun e => Nat.ble last e.2.2) then none
        else bif es.all fun e => Nat.blt e.2.2 since then
          (match leftOf es seen with
           | [] => some [(.tuple [litBool false], h)]
           | left => some (left.map fun e => (.tuple [litBool true, e.1, e.2.1], h.upd b (.mapIter (some m) since (seen ++ [e.2.2]) clock))))
        else none
      | _ => none
    | _ => none
  | _, _ => none

/-- The entry at which an iterator stands. -/
def entryE (h : Hp) (it : SV) : Option (SV × Hp) :=
  match it with
  | .ptr b 0 => match h.objs.get b with
    | some (.mapIter (some m) _ seen last) => match seen.getLast?, h.objs.get m with
      | some stamp, some (.map es clock) => bif Nat.beq clock last then (match es.find? fun e => Nat.beq e.2.2 stamp with
        | some e => some (.tuple [e.1, e.2.1], h)
        | none => none) else none
      | _, _ => none
    | _ => none
  | _ => none

def bytesE (P : Program) (h : Hp) (s d : TypeId) (x : SV) : Option (SV × Hp) :=
  match tyU P s, tyU P d, x with
  | some .string, some (.slice e), .lit (.string t) => match tyU P e with
    | some (.int .u8) => some (newRowE h (t.data.toList.map fun b => .lit (.int .u8 b.toNat)) e t.size 1)
    | _ => none
  | some (.slice _), some (.slice e), .slice b off n c => match Nat.beq s d, tyU P e, h.objs.get b with
    | true, some (.int .u8), some (.cells l e') => some (.slice b off n c, h.upd b (.cells l e'))
    | true, some (.int .u8), some (.row l e' k cv z) => some (.slice b off n c, h.upd b (.row l e' k cv z))
    | _, _, _ => none
  | some (.slice _), some (.slice e), .row b off n k' cv' => match Nat.beq s d, tyU P e, h.objs.get b with
    | true, some (.int .u8), some (.cells l e') => some (.row b off n k' cv', h.upd b (.cells l e'))
    | true, some (.int .u8), some (.row l e' k cv z) => some (.row b off n k' cv', h.upd b (.row l e' k cv z))
    | _, _, _ => none
  | _, _, _ => none

def val (o : Option (SV × Hp)) : Option (List (SV × Hp)) := o.map fun x => [x]
def unit (o : Option Hp) : Option (List (SV × Hp)) := o.map fun h => [(.lit undef, h)]
def done (o : Option Hp) : Option (List (SV × Hp)) := o.map fun h => [(.lit (.tuple #[]), h)]

/-- An operation that makes or turns memory, without a call. -/
def effect (P : Program) (Γ : Glob) (h : Hp) (ρ : Operand → SV) (op : Op) : Option (List (SV × Hp)) :=
  match op with
  | .store t a x => unit (storeE P h t (ρ a) (ρ x))
  | .alloc e => val ((tyZero P e).map fun z => let r := h.new (.cells (SV.cells (.lit z)) e); (.ptr r.1 0, r.2))
  | .box e x => some [(let r := h.new (.cells (ρ x).cells e); (.ptr r.1 0, r.2))]
  | .buildSlice t len parts => val (buildSliceE P h t len (parts.toList.map fun p => (p.1, ρ p.2)))
  | .makeMap t none => match tyU P t with
    | some (.map _ _) => let r := h.new (.map [] 0); some [(.map r.1, r.2)]
    | _ => none
  | .makeMap t (some x) => match tyU P t, ρ x with
    | some (.map _ _), .lit (.int _ _) => let r := h.new (.map [] 0); some [(.map r.1, r.2)]
    | _, _ => none
  | .makeSlice t l c => val (makeSliceE P h t (ρ l) (ρ c))
  | .mapUpdate t m k x | .insert t m k x => unit (mapUpdateE P h t (ρ m) (ρ k) (ρ x))
  | .range t x => val (rangeE P h t (ρ x))
  | .next it isString => nextE h (ρ it) isString
  | .entry it => val (entryE h (ρ it))
  | .convert s d x => val (bytesE P h s d (ρ x))
  | .call ⟨.builtin .append, args, argTypes⟩ => match args.toList with
    | [s, x] => val (appendE P Γ h argTypes.toList (ρ s) (ρ x))
    | _ => none
  | .call ⟨.builtin .copy, args, argTypes⟩ => match args.toList, argTypes[0]? with
    | [d, s], some t => val (copyE P Γ h t (ρ d) (ρ s))
    | _, _ => none
  | .call ⟨.builtin .delete, args, argTypes⟩ => match args.toList, argTypes[0]? with
    | [m, k], some t => done (deleteE P h t (ρ m) (ρ k))
    | _, _ => none
  | .call ⟨.builtin .clear, args, argTypes⟩ => match args.toList, argTypes[0]? with
    | [x], some t => done (clearE P h t (ρ x))
    | _, _ => none
  | _ => none

/-! ### calls -/
inductive Callee' where
  | fn (f : FuncId) (args : List SV)
  | round (b : Nat) (args : List SV)

def calleeOf (ρ : Operand → SV) (op : Op) : Option Callee' :=
  match op with
  | .call ⟨.value f, args, _⟩ => match ρ f with
    | .lit (.func (.func g) a b) => some (.fn g (a.toList.map .lit ++ args.toList.map ρ ++ b.toList.map .lit))
    | .func (.func g) a b => some (.fn g (a ++ args.toList.map ρ ++ b))
    | .yield b => some (.round b (args.toList.map ρ))
    | _ => none
  | _ => none

/-! ### the run -/
inductive SExit where
  | normal
  | exit (id : Nat)
  | ret

structure Out where
  exit : SExit
  fr : Fr
  hp : Hp
  v : SV

abbrev R := Option (List Out)

inductive Task where
  | code (c : Code) (ro : Option Nat) (fr : Fr) (hp : Hp)
  | call (f : FuncId) (args : List SV) (hp : Hp)
  | round (b : Nat) (args : List SV) (hp : Hp)

def allOf {α β : Type} (f : α → Option (List β)) : List α → Option (List β)
  | [] => some []
  | a :: l => match f a, allOf f l with
    | some x, some y => some (x ++ y)
    | _, _ => none

/-- Is an operation wanted? -/
def wantedQ (ops : Array Oper) (fr : Fr) (o : Oper) : Option Bool :=
  match o.guard with
  | none => some true
  | some (j, want) => match (ops[j]?).bind (·.dst) with
    | none => some false
    | some t => bif Nat.blt t fr.sz then (match fr.ev (.tmp t) with
      | .lit (.bool b) => some (b == want)
      | .lit _ => some false
      | _ => none) else some false

/-- The one function without a body that is known: a copy of a map. -/
def cloneE (P : Program) (h : Hp) (f : FuncId) (args : List SV) : Option (SV × Hp) :=
  match P.funcs[f]?, args with
  | some fn, [.iface t (.map b)] => bif fn.body.isNone && (fn.name == "maps.clone") && (fn.origin == "" || fn.origin == "maps.clone") then (match h.objs.get b with
    | some (.map es c) => let r := h.new (.map es c); some (.iface t (.map r.1), r.2)
    | _ => none) else none
  | _, _ => none

/-- What an operation that is no quiet one may come to. -/
def loud (P : Program) (Γ : Glob) (self : Task → R) (fr : Fr) (hp : Hp) (o : Oper) : Option (List (SV × Hp)) :=
  match calleeOf fr.ev o.op with
  | some (.fn f args) => match cloneE P hp f args with
    | some x => some [x]
    | none => (self (.call f args hp)).map fun outs => outs.map fun x => (x.v, x.hp)
  | some (.round b args) => (self (.round b args hp)).map fun outs => outs.map fun x => (x.v, x.hp)
  | none => match effect P Γ hp fr.ev o.op with
    | none => none
    | some outs => bif outs.all (fun r => Nat.ble hp.next r.2.next) then some outs else none

/-- One operation, in its turn. -/
def oper (P : Program) (Γ : Glob) (self : Task → R) (ops : Array Oper) (fr : Fr) (hp : Hp) (o : Oper) : Option (List (Fr × Hp)) :=
  match wantedQ ops fr o with
  | none => none
  | some false => (fr.put o.dst (.lit undef)).map fun f => [(f, hp)]
  | some true => match quiet P Γ hp fr.ev o.op with
    | some (v, _) => (fr.put o.dst v).map fun f => [(f, hp)]
    | none => match loud P Γ self fr hp o with
      | some rs => allOf (fun r => (fr.put o.dst r.1).map fun f => [(f, r.2)]) rs
      | none => none

def inTurn (P : Program) (Γ : Glob) (self : Task → R) (ops : Array Oper) : List Oper → Fr → Hp → R
  | [], fr, hp => some [⟨.normal, fr, hp, .lit undef⟩]
  | o :: rest, fr, hp => match oper P Γ self ops fr hp o with
    | some l => allOf (fun x => inTurn P Γ self ops rest x.1 x.2) l
    | none => none

/-! ### a region that draws its order -/
def depsOf (o : Oper) : Nat := o.after.foldl (fun s e => bif Region.binds .any e then s ||| 2 ^ e.on else s) 0

/-- Which operations wait for number i, directly or not. -/
def descOf (i : Nat) : List Oper → Nat → Nat → Nat
  | [], _, d => d
  | o :: l, k, d => descOf i l (k + 1) (bif Nat.beq (Nat.land (depsOf o) (d ||| 2 ^ i)) 0 then d else d ||| 2 ^ k)

structure Held where
  desc : Nat
  facts : List Fact
  chg : Option (Nat × AObj)

def litSame : Value → Value → Bool
  | .int k a, .int k' b => k == k' && a == b
  | .bool a, .bool b => a == b
  | .string a, .string b => a.data.toList == b.data.toList
  | .pointer none, .pointer none => true
  | .slice none a b, .slice none c d => a == c && b == d
  | .map none, .map none => true
  | .nilFunc, .nilFunc => true
  | .nilIface, .nilIface => true
  | _, _ => false

mutual
def SV.same : SV → SV → Bool
  | .lit x, .lit y => litSame x y
  | .ptr a b, .ptr c d => a == c && b == d
  | .slice a b c d, .slice a' b' c' d' => a == a' && b == b' && c == c' && d == d'
  | .row a b c d e, .row a' b' c' d' e' => a == a' && b == b' && c == c' && d == d' && e == e'
  | .map a, .map b => a == b
  | .agg l, .agg l' => SV.sameL l l'
  | .num k i, .num k' j => k == k' && i == j
  | .opq i, .opq j => i == j
  | _, _ => false
def SV.sameL : List SV → List SV → Bool
  | [], [] => true
  | a :: l, b :: m => SV.same a b && SV.sameL l m
  | _, _ => false
end

def sameEntries : List (SV × SV × Nat) → List (SV × SV × Nat) → Bool
  | [], [] => true
  | (k, v, c) :: l, (k', v', c') :: m => SV.same k k' && SV.same v v' && Nat.beq c c' && sameEntries l m
  | _, _ => false

def factHolds (h : Hp) : Fact → Bool
  | .cells b off vs => match (knownCells h b).bind (cut · off vs.length) with
    | some ws => SV.sameL vs ws
    | none => false
  | .obj b (.map es c) => match h.objs.get b with
    | some (.map es' c') => Nat.beq c c' && sameEntries es es'
    | _ => false
  | .obj _ _ => false

def Fact.blk : Fact → Nat
  | .cells b _ _ => b
  | .obj b _ => b
def Held.at (x : Held) : Option Nat := x.chg.map (·.1)

/-- Was this block turned ahead, by an operation for which i does not wait? -/
def hidden (i : Nat) : List Held → Nat → Bool
  | [], _ => false
  | x :: l, b => (match x.chg with
    | some (b', _) => !Nat.testBit x.desc i && Nat.beq b b'
    | none => false) || hidden i l b

/-- The memory as operation i may see it: what was turned ahead by operations for which it does not wait is hidden. -/
def hide (i : Nat) : List Held → T AObj → T AObj
  | [], t => t
  | x :: l, t => match x.chg with
    | some (b, _) => bif Nat.testBit x.desc i then hide i l t else hide i l (t.put b none)
    | none => hide i l t

/-- What was hidden is there again; none: something stands at its place. -/
def showed (i : Nat) (t r : T AObj) : List Held → T AObj → Option (T AObj)
  | [], acc => some acc
  | x :: l, acc => match x.chg with
    | some (b, _) => bif Nat.testBit x.desc i then showed i t r l acc else (match r.get b with
      | some _ => none
      | none => showed i t r l (acc.put b (t.get b)))
    | none => showed i t r l acc

/-- Do the facts on which operations lean that were taken ahead, and that do not wait for i, hold behind it? -/
def factsStand (r : Hp) (i : Nat) (all : List Held) : List Held → Bool
  | [] => true
  | x :: l => (bif Nat.testBit x.desc i then true else x.facts.all fun f => hidden i all f.blk || factHolds r f) && factsStand r i all l

/-- Does no operation that was taken ahead, and that does not wait for i, lean on a block? -/
def noneLeans (i b : Nat) : List Held → Bool
  | [] => true
  | x :: l => (bif Nat.testBit x.desc i then true else x.facts.all fun f => !Nat.beq f.blk b) && noneLeans i b l

/-- Who waits for an operation that was taken ahead comes behind it. -/
def drop (i : Nat) : List Held → List Held
  | [] => []
  | x :: l => bif Nat.testBit x.desc i then drop i l else x :: drop i l

/-- An operation that turns one block, or makes one. -/
def localE (P : Program) (h : Hp) (ρ : Operand → SV) (op : Op) : Option (SV × Nat × AObj × Nat) :=
  match op with
  | .alloc e => (tyZero P e).map fun z => (.ptr h.next 0, h.next, .cells (SV.cells (.lit z)) e, h.next + 1)
  | .box e x => some (.ptr h.next 0, h.next, .cells (ρ x).cells e, h.next + 1)
  | .makeMap t none => match tyU P t with
    | some (.map _ _) => some (.map h.next, h.next, .map [] 0, h.next + 1)
    | _ => none
  | .makeMap t (some x) => match tyU P t, ρ x with
    | some (.map _ _), .lit (.int _ _) => some (.map h.next, h.next, .map [] 0, h.next + 1)
    | _, _ => none
  | .store t a x => match tySize P t, ρ a with
    | some n, .ptr b off => bif Nat.beq (ρ x).cells.length n then
        (match h.objs.get b with
         | some (.cells l e) => (splice l off (ρ x).cells).map fun l' => (.lit undef, b, .cells l' e, h.next)
         | some (.row l e k cv s) => (splice l off (ρ x).cells).map fun l' => (.lit undef, b, .row l' e k cv s, h.next)
         | _ => none)
      else none
    | _, _ => none
  | _ => none

/-- The pass: whatever may be taken now, in the order of the text. -/
def takeAll (P : Program) (Γ : Glob) (ops : Array Oper) : List Oper → Nat → Nat → List Held → Fr → Hp → Option (Nat × List Held × Fr × Hp)
  | [], _, mask, held, fr, hp => some (mask, held, fr, hp)
  | o :: rest, i, mask, held, fr, hp =>
    bif Nat.testBit mask i then takeAll P Γ ops rest (i + 1) mask held fr hp
    else bif Nat.beq (Nat.land (depsOf o) mask) (depsOf o) then
      (match wantedQ ops fr o with
       | none => none
       | some false => match fr.put o.dst (.lit undef) with
         | some f => takeAll P Γ ops rest (i + 1) (mask ||| 2 ^ i) held f hp
         | none => none
       | some true => match quiet P Γ ⟨hide i held hp.objs, hp.next⟩ fr.ev o.op with
         | some (v, fs) => match fr.put o.dst v with
           | some f => takeAll P Γ ops rest (i + 1) (mask ||| 2 ^ i) (match fs with
             | [] => held
             | _ => ⟨descOf i ops.toList 0 0, fs, none⟩ :: held) f hp
           | none => none
         | none => match localE P ⟨hide i held hp.objs, hp.next⟩ fr.ev o.op with
           | some (v, b, ob, nx) => bif noneLeans i b held then (match fr.put o.dst v with
             | some f => takeAll P Γ ops rest (i + 1) (mask ||| 2 ^ i) (⟨descOf i ops.toList 0 0, [], some (b, ob)⟩ :: held) f ⟨hp.objs.set b ob, nx⟩
             | none => none) else takeAll P Γ ops rest (i + 1) mask held fr hp
           | none => takeAll P Γ ops rest (i + 1) mask held fr hp)
    else takeAll P Γ ops rest (i + 1) mask held fr hp

def readyNow (mask : Nat) : List Oper → Nat → List (Nat × Oper)
  | [], _ => []
  | o :: rest, i => bif !Nat.testBit mask i && Nat.beq (Nat.land (depsOf o) mask) (depsOf o) then (i, o) :: readyNow mask rest (i + 1) else readyNow mask rest (i + 1)

/-- A loud operation of such a region comes up. -/
def comesUp (P : Program) (Γ : Glob) (self : Task → R) (ops : Array Oper) (go : Nat → List Held → Fr → Hp → R) (mask : Nat) (held : List Held) (fr : Fr) (hp : Hp) (io : Nat × Oper) : R :=
  match wantedQ ops fr io.2 with
  | some true => match loud P Γ self fr ⟨hide io.1 held hp.objs, hp.next⟩ io.2 with
    | none => none
    | some outs => allOf (fun r => match showed io.1 hp.objs r.2.objs held r.2.objs, fr.put io.2.dst r.1 with
      | some t, some f => bif factsStand r.2 io.1 held held then go (mask ||| 2 ^ io.1) (drop io.1 held) f ⟨t, r.2.next⟩ else none
      | _, _ => none) outs
  | _ => none

def drawn (P : Program) (Γ : Glob) (self : Task → R) (ops : Array Oper) : Nat → Nat → List Held → Fr → Hp → R
  | 0, _, _, _, _ => none
  | n + 1, mask, held, fr, hp => match takeAll P Γ ops ops.toList 0 mask held fr hp with
    | none => none
    | some x => match readyNow x.1 ops.toList 0 with
      | [] => bif Nat.beq x.1 (2 ^ ops.size - 1) then some [⟨.normal, x.2.2.1, x.2.2.2, .lit undef⟩] else none
      | rs => allOf (comesUp P Γ self ops (drawn P Γ self ops n) x.1 x.2.1 x.2.2.1 x.2.2.2) rs

/-- The temporaries that an operation looks at, as bits. -/
def looksBits (ops : Array Oper) (o : Oper) : Nat :=
  (o.looksAt ops).foldl (fun s t => s ||| 2 ^ t) 0
def dstBits (o : Oper) : Nat := match o.dst with
  | some d => 2 ^ d
  | none => 0
def isSelect : Op → Bool
  | .select .. => true
  | _ => false
def isDefer : Op → Bool
  | .defer _ => true
  | _ => false

/-- Two operations of which neither waits for the other keep off each other's temporaries. -/
def apartFrom (ops : Array Oper) (j : Nat) (d l : Nat) : List Oper → Nat → Nat → Bool
  | [], _, _ => true
  | o :: rest, i, deps => (bif Nat.beq i j then true else bif Nat.testBit deps i then true
      else Nat.beq (Nat.land (dstBits o) (l ||| d)) 0 && Nat.beq (Nat.land d (looksBits ops o)) 0) && apartFrom ops j d l rest (i + 1) deps

def regionFit (ops : Array Oper) : List Oper → Nat → Bool
  | [], _ => true
  | o :: rest, j => !isSelect o.op && !isDefer o.op && Nat.blt (depsOf o) (2 ^ j) && apartFrom ops j (dstBits o) (looksBits ops o) (ops.toList.take j) 0 (depsOf o) && regionFit ops rest (j + 1)

/-! ### code -/
def seqOut (f : Fr → Hp → R) (outs : List Out) : R :=
  allOf (fun x => match x.exit with
    | .normal => f x.fr x.hp
    | _ => some [x]) outs

def setAll : List (Tmp × SV) → Fr → Option Fr
  | [], f => some f
  | (t, v) :: l, f => match f.put (some t) v with
    | some f' => setAll l f'
    | none => none

def resultsQ (P : Program) (Γ : Glob) (fr : Fr) (hp : Hp) : List ResultVar → Option (List SV)
  | [] => some []
  | .tmp t :: l => (resultsQ P Γ fr hp l).map fun r => fr.ev (.tmp t) :: r
  | .cell a t :: l => match loadQ P Γ hp t (fr.ev (.tmp a)), resultsQ P Γ fr hp l with
    | some (v, _), some r => some (v :: r)
    | _, _ => none

/-- The marks of ranges over functions: each block of deferred calls is there, and empty; it is shut. -/
def shutMarks : List Nat → Hp → Option Hp
  | [], h => some h
  | b :: l, h => match h.objs.get b with
    | some (.deferred true) => shutMarks l (h.upd b (.deferred false))
    | _ => none

def leave (P : Program) (Γ : Glob) (fn : Func) (x : Out) : R :=
  match x.exit with
  | .exit _ => none
  | _ => match shutMarks x.fr.marks x.hp with
    | none => none
    | some h => match resultsQ P Γ x.fr h fn.results.toList with
      | some [v] => some [⟨.ret, x.fr, h, v⟩]
      | some vs => some [⟨.ret, x.fr, h, .tuple vs⟩]
      | none => none

def endRoundE (h : Hp) (b : Nat) (jump : Option Code) : Option (SV × Hp) :=
  match h.objs.get b with
  | some (.loop l) => some (litBool jump.isNone, h.upd b (.loop { l with state := bif jump.isNone then .ready else .done, pending := jump }))
  | _ => none

/-- The block for the rounds' deferred calls. -/
def loopStart (ro : Option Nat) (fr : Fr) (hp : Hp) : Option (Nat × Fr × Hp) :=
  match ro with
  | some l => match hp.objs.get l with
    | some (.loop x) => some (x.defers, fr, hp)
    | _ => none
  | none => let r := hp.new (.deferred true); some (r.1, { fr with marks := r.1 :: fr.marks }, r.2)

def seqCallee (g : SV) (b : Nat) : Option (FuncId × List SV) :=
  match g with
  | .lit (.func (.func f) x y) => some (f, x.toList.map SV.lit ++ [SV.yield b] ++ y.toList.map SV.lit)
  | .func (.func f) x y => some (f, x ++ [SV.yield b] ++ y)
  | _ => none

def loopEnd (b : Nat) (fr : Fr) (x : Out) : R :=
  match x.hp.objs.get b with
  | some (.loop l) => match l.state with
    | .busy => none
    | _ => match l.pending with
      | none => some [⟨.normal, fr, x.hp.upd b (.loop { l with state := .exhausted }), .lit undef⟩]
      | some .ret => some [⟨.ret, fr, x.hp.upd b (.loop { l with state := .exhausted }), .lit undef⟩]
      | some (.exit id) => some [⟨.exit id, fr, x.hp.upd b (.loop { l with state := .exhausted }), .lit undef⟩]
      | _ => none
  | _ => none

def roundEnd (b : Nat) (y : Out) : R :=
  match (match y.exit with
    | .normal => endRoundE y.hp b none
    | .ret => endRoundE y.hp b (some .ret)
    | .exit id => endRoundE y.hp b (some (.exit id))) with
  | some r => some [⟨.ret, y.fr, r.2, r.1⟩]
  | none => none

def roundBody (self : Task → R) (b : Nat) (body : Code) (x : Out) : R :=
  match x.exit, x.hp.objs.get b with
  | .normal, some (.loop l) => match l.state with
    | .ready => match self (.code body (some b) x.fr (x.hp.upd b (.loop { l with state := .busy }))) with
      | none => none
      | some outs => allOf (roundEnd b) outs
    | _ => none
  | _, _ => none

def stepTask (P : Program) (Γ : Glob) (self : Task → R) : Task → R
  | .code .skip _ fr hp => some [⟨.normal, fr, hp, .lit undef⟩]
  | .code (.label _) _ fr hp => some [⟨.normal, fr, hp, .lit undef⟩]
  | .code .ret _ fr hp => some [⟨.ret, fr, hp, .lit undef⟩]
  | .code (.exit id) _ fr hp => some [⟨.exit id, fr, hp, .lit undef⟩]
  | .code (.seq a b) ro fr hp => match self (.code a ro fr hp) with
    | some outs => seqOut (fun f h => self (.code b ro f h)) outs
    | none => none
  | .code (.cond c x y) ro fr hp => match fr.ev c with
    | .lit (.bool true) => self (.code x ro fr hp)
    | .lit (.bool false) => self (.code y ro fr hp)
    | _ => none
  | .code (.block id c) ro fr hp => match self (.code c ro fr hp) with
    | some outs => some (outs.map fun x => match x.exit with
      | .exit k => bif Nat.beq k id then { x with exit := .normal } else x
      | _ => x)
    | none => none
  | .code (.loop c) ro fr hp => match self (.code c ro fr hp) with
    | some outs => seqOut (fun f h => self (.code (.loop c) ro f h)) outs
    | none => none
  | .code (.region _ ops false) _ fr hp => inTurn P Γ self ops ops.toList fr hp
  | .code (.region _ ops true) _ fr hp => bif regionFit ops ops.toList 0 then drawn P Γ self ops (ops.size + 1) 0 [] fr hp else none
  | .code (.rangeFunc g ps assign body) ro fr hp => match loopStart ro fr hp with
    | none => none
    | some s => let r := s.2.2.new (.loop ⟨.ready, none, 0, fr.tmps, fr.sz, ps, assign, body, s.1⟩)
      match seqCallee (fr.ev g) r.1 with
      | none => none
      | some c => match self (.call c.1 c.2 r.2) with
        | none => none
        | some outs => allOf (loopEnd r.1 s.2.1) outs
  | .code _ _ _ _ => none
  | .call f args hp => match P.funcs[f]? with
    | none => none
    | some fn => match fn.body with
      | none => none
      | some c => match self (.code c none ⟨T.ofList args 0 .leaf, Nat.max fn.ntmps args.length, []⟩ hp) with
        | some outs => allOf (leave P Γ fn) outs
        | none => none
  | .round b args hp => match hp.objs.get b with
    | some (.loop l) => bif Nat.beq args.length l.params.size then
        (match setAll (l.params.toList.zip args) ⟨l.tmps, l.sz, []⟩ with
         | none => none
         | some fr => match self (.code l.assign (some b) fr hp) with
           | none => none
           | some outs => allOf (roundBody self b l.body) outs)
      else none
    | _ => none

def run (P : Program) (Γ : Glob) (n : Nat) : Task → R := Nat.rec (fun _ => none) (fun _ ih => stepTask P Γ ih) n

end Go.Proofs.YthjkejnmjbljfaaGreatDoor.Ev
