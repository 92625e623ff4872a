/-
  A part of the proof of FileReads; no condition.
-/
import Derived.RangeFuncLeaves
import Derived.OrdersIn
import Derived.Below
import Derived.KernelRfl
import Derived.Laws.Cells
set_option linter.all false
namespace Go.Proofs.YtbhokokpplmigaaGreatDoor.Ev
open Go Go.RowKit
theorem bj{P:Prop}(h:P:=by omega):P:=h
theorem bm{P:Prop}(h:P:=by kernel_rfl):P:=h
abbrev bn:=List UInt8
theorem a7:type_of%@Option.some.injEq:=@Option.some.injEq
theorem a8:type_of%@Bool.and_eq_true:=@Bool.and_eq_true
theorem aa:type_of%@Option.map_eq_some_iff:=@Option.map_eq_some_iff
theorem ab:type_of%@Option.some.inj:=@Option.some.inj
theorem ac:type_of%@List.length_append:=@List.length_append
theorem ae:type_of%@Sem.run_bind:=@Sem.run_bind
theorem af:type_of%@Option.map_some:=@Option.map_some
theorem ah:type_of%@Sem.run_pure:=@Sem.run_pure
theorem ai:type_of%@Nat.ble_eq_true_of_le:=@Nat.ble_eq_true_of_le
theorem aj:type_of%@Nat.eq_of_beq_eq_true:=@Nat.eq_of_beq_eq_true
theorem ak:type_of%@List.mem_cons_self:=@List.mem_cons_self
theorem al:type_of%@List.all_cons:=@List.all_cons
theorem am:type_of%@List.mem_cons_of_mem:=@List.mem_cons_of_mem
theorem ao:type_of%@List.length_map:=@List.length_map
theorem ap:type_of%@Prod.mk.injEq:=@Prod.mk.injEq
theorem aq:type_of%@Nat.lt_succ_self:=@Nat.lt_succ_self
theorem au:type_of%@List.length_cons:=@List.length_cons
theorem av:type_of%@Nat.le_refl:=@Nat.le_refl
theorem aw:type_of%@List.length_nil:=@List.length_nil
theorem ax:type_of%@List.map_cons:=@List.map_cons
theorem ay:type_of%@Option.bind_some:=@Option.bind_some
theorem aA:type_of%@Bool.false_eq_true:=@Bool.false_eq_true
theorem aB:type_of%@List.getElem?_eq_getElem:=@List.getElem?_eq_getElem
theorem aC:type_of%@List.append_assoc:=@List.append_assoc
theorem aD:type_of%@List.mem_cons:=@List.mem_cons
theorem aE:type_of%@List.all_eq_true:=@List.all_eq_true
theorem aF:type_of%@Bool.and_self:=@Bool.and_self
theorem aG:type_of%@Nat.le_of_ble_eq_true:=@Nat.le_of_ble_eq_true
theorem aH:type_of%@List.map_append:=@List.map_append
theorem aI:type_of%@Bool.true_and:=@Bool.true_and
theorem aJ:type_of%@Option.bind_eq_some_iff:=@Option.bind_eq_some_iff
theorem aK:type_of%@List.mem_append_left:=@List.mem_append_left
theorem aL:type_of%@List.length_take:=@List.length_take
theorem aM:type_of%@Nat.lt_of_lt_of_le:=@Nat.lt_of_lt_of_le
theorem aN:type_of%@Array.toList_inj:=@Array.toList_inj
theorem aO:type_of%@List.mem_append_right:=@List.mem_append_right
theorem aP:type_of%@List.getElem?_toArray:=@List.getElem?_toArray
theorem aQ:type_of%@List.mem_singleton_self:=@List.mem_singleton_self
theorem aR:type_of%@List.length_drop:=@List.length_drop
theorem aU:type_of%@List.getElem?_append_left:=@List.getElem?_append_left
theorem aV:type_of%@List.getElem?_map:=@List.getElem?_map
theorem aW:type_of%@List.mem_of_getElem?:=@List.mem_of_getElem?
theorem aX:type_of%@Nat.zero_add:=@Nat.zero_add
theorem aY:type_of%@List.map_nil:=@List.map_nil
theorem aZ:type_of%@List.flatten_cons:=@List.flatten_cons
theorem ba:type_of%@decide_eq_true_eq:=@decide_eq_true_eq
theorem bb:type_of%@beq_self_eq_true:=@beq_self_eq_true
theorem bc:type_of%@decide_eq_false:=@decide_eq_false
theorem bd:type_of%@decide_eq_true:=@decide_eq_true
theorem bf:type_of%@cond_true:=@cond_true
theorem bg:type_of%@cond_false:=@cond_false
theorem bh:type_of%@if_neg:=@if_neg
theorem bi:type_of%@if_pos:=@if_pos
inductive T (α:Type)where
 |leaf
 |node (l:T α) (v:Option α) (r:T α)
def T.get{α:Type}:T α->Nat->Option α
 | .leaf,_=>none
 | .node l v r,n=>bif Nat.beq n 0 then v else bif Nat.beq (n%2) 1 then l.get (n/2)else r.get (n/2-1)
def T.left{α:Type}:T α->T α
 | .leaf=>.leaf
 | .node l _ _=>l
def T.here{α:Type}:T α->Option α
 | .leaf=>none
 | .node _ v _=>v
def T.right{α:Type}:T α->T α
 | .leaf=>.leaf
 | .node _ _ r=>r
def T.putF{α:Type}(o:Option α):Nat->T α->Nat->T α
 |0,t,_=>.node t.left o t.right
 |f+1,t,n=>bif Nat.beq n 0 then .node t.left o t.right
   else bif Nat.beq (n%2) 1 then .node (T.putF o f t.left (n/2)) t.here t.right
   else .node t.left t.here (T.putF o f t.right (n/2-1))
def T.put{α:Type}(t:T α)(n:Nat)(o:Option α):T α:=T.putF o n t n
def T.set{α:Type}(t:T α)(n:Nat)(a:α):T α:=t.put n (some a)
def T.ofList{α:Type}:List α->Nat->T α->T α
 |[],_,t=>t
 |a::l,k,t=>T.ofList l (k+1) (t.set k a)
inductive SV where
 |lit (v:Value)
 |ptr (b off:Nat)
 |slice (b off len cap:Nat)
 |row (b off len k cv:Nat)
 |map (b:Nat)
 |func (fn:Fn) (first captured:List SV)
 |yield (b:Nat)
 |iface (t:TypeId) (v:SV)
 |agg (l:List SV)
 |tuple (l:List SV)
 |num (k:IntKind) (i:Nat)
 |opq (i:Nat)
 |tail (b o1 o2 cv:Nat)
 deriving Inhabited
mutual
def SV.toLit:SV->Option Value
 | .lit v=>some v
 | .agg l=>match SV.toLitL l with
   |some vs=>some (.agg vs.toArray)
   |none=>none
 | .tuple l=>match SV.toLitL l with
   |some vs=>some (.tuple vs.toArray)
   |none=>none
 | .iface t v=>match v.toLit with
   |some x=>some (.iface t x)
   |none=>none
 |_=>none
def SV.toLitL:List SV->Option (List Value)
 |[]=>some []
 |v::l=>match v.toLit,SV.toLitL l with
  |some x,some xs=>some (x::xs)
  |_,_=>none
end
def SV.cells:SV->List SV
 | .agg l=>l
 | .lit (.agg cs)=>cs.toList.map .lit
 |v=>[v]
structure ALoop where
 state:LoopState
 pending:Option Code
 fn:FuncId
 tmps:T SV
 sz:Nat
 params:Array Tmp
 assign:Code
 body:Code
 defers:Nat
inductive AObj where
 |cells (l:List SV) (elem:TypeId)
 |row (l:List SV) (elem:TypeId) (k cv size:Nat)
 |map (es:List (SV×SV×Nat)) (clock:Nat)
 |strIter (s:ByteArray) (pos:Nat)
 |mapIter (m:Option Nat) (since:Nat) (seen:List Nat) (stepped:Nat)
 |loop (l:ALoop)
 |deferred (here:Bool)
 |text (j e cv:Nat)
 |bld (b j rb cv e:Nat)
structure Hp where
 objs:T AObj
 next:Nat
structure Fr where
 tmps:T SV
 sz:Nat
 marks:List Nat
def Hp.new(h:Hp)(o:AObj):Nat×Hp:=(h.next,⟨h.objs.set h.next o,h.next+1⟩)
def Hp.upd(h:Hp)(b:Nat)(o:AObj):Hp:=⟨h.objs.set b o,h.next⟩
def Fr.ev(f:Fr):Operand->SV
 | .tmp t=>match f.tmps.get t with
   |some v=>v
   |none=>.lit undef
 | .const v=>.lit v
 | .global g=>.lit (.pointer (some ⟨g,0,none⟩))
 | .func g=>.lit (.func (.func g) #[] #[])
def Fr.put(f:Fr)(dst:Option Tmp)(v:SV):Option Fr:=
 match dst with
 |none=>some f
 |some d=>bif Nat.blt d f.sz then some {f with tmps:=f.tmps.set d v}else none
def pureRun{α:Type}(P:Program):Sem α->Option α
 | .pure a=>some a
 | .program k=>pureRun P (k P)
 | .mark _ k=>pureRun P k
 |_=>none
def tyU(P:Program)(t:TypeId):Option TypeDesc:=P.underlying t
def bI(P:Program)(t:TypeId):Option Nat:=(P.info? t).map (·.size)
def dB(P:Program)(t:TypeId):Option Value:=(P.info? t).bind (·.zero)
def e8(P:Program)(t:TypeId):Option Bool:=
 match P.underlying t with
 |some (.struct _)|some (.array _ _)=>some true
 |some _=>some false
 |none=>none
def cut(l:List SV)(off n:Nat):Option (List SV):=
 let r:=(l.drop off).take n
 bif Nat.beq r.length n then some r else none
def SV.one:SV->Bool
 | .agg _=>false
 | .tuple _=>false
 | .lit (.agg _)=>false
 | .lit (.tuple _)=>false
 |_=>true
def cH(l:List SV)(off:Nat)(vs:List SV):Option (List SV):=
 bif Nat.ble (off+vs.length) l.length&&vs.all SV.one then some (l.take off++vs++l.drop (off+vs.length))else none
inductive Fact where
 |cells (b off:Nat) (vs:List SV)
 |obj (b:Nat) (o:AObj)
abbrev Ask:=Op->(Operand->SV)->Option SV
def noAsk:Ask:=λ_ _=>none
structure Glob where
 tab:T (List Value)
 ask:Ask
def Glob.get(Γ:Glob)(g:Nat):Option (List Value):=Γ.tab.get g
def Glob.set(Γ:Glob)(g:Nat)(l:List Value):Glob:=⟨Γ.tab.set g l,Γ.ask⟩
def Glob.leaf:Glob:=⟨.leaf,noAsk⟩
def knownCells(h:Hp)(b:Nat):Option (List SV):=
 match h.objs.get b with
 |some (.cells l _)=>some l
 |some (.row l _ _ _ _)=>some l
 |_=>none
def bF(Γ:Glob)(h:Hp)(p:SV)(n:Nat):Option (List SV×List Fact):=
 match p with
 | .ptr b off=>match(knownCells h b).bind (cut · off n)with
   |some vs=>some (vs,[.cells b off vs])
   |none=>none
 | .lit (.pointer (some ⟨g,off,none⟩))=>match(Γ.get g).bind λcs=>cut (cs.map .lit) off n with
   |some vs=>some (vs,[])
   |none=>none
 |_=>none
def dk(P:Program)(Γ:Glob)(h:Hp)(t:TypeId)(p:SV):Option (SV×List Fact):=
 match e8 P t with
 |some true=>match bI P t with
  |some n=>match bF Γ h p n with
   |some (vs,fs)=>some (.agg vs,fs)
   |none=>none
  |none=>none
 |some false=>match bF Γ h p 1 with
  |some ([v],fs)=>some (v,fs)
  |_=>none
 |none=>none
def nF(P:Program)(t:TypeId)(l:List SV)(off:Nat):Option SV:=
 match e8 P t with
 |some true=>match bI P t with
  |some n=>(cut l off n).map .agg
  |none=>none
 |some false=>l[off]?
 |none=>none
def kG(place:Nat->Option (Nat×Nat))(l:List SV):List (Nat×SV)->Option (List SV)
 |[]=>some l
 |(i,v)::rest=>match place i with
  |none=>none
  |some (off,size)=>bif Nat.beq v.cells.length size then(match cH l off v.cells with
   |some l'=>kG place l' rest
   |none=>none)else none
def n7(P:Program):List Field->Option (List (Nat×Nat))
 |[]=>some []
 |f::fs=>match bI P f.type,n7 P fs with
  |some s,some r=>some ((f.offset,s)::r)
  |_,_=>none
def mI(P:Program)(t:TypeId)(parts:List (Nat×SV)):Option SV:=
 match dB P t,tyU P t with
 |some z,some (.struct fields)=>match n7 P fields.toList with
  |some places=>(kG (places[·]?) (SV.cells (.lit z)) parts).map .agg
  |none=>none
 |some z,some (.array _ e)=>match bI P e with
  |some size=>(kG (λi=>some (i*size,size)) (SV.cells (.lit z)) parts).map .agg
  |none=>none
 |_,_=>none
def kJ(p:SV)(n:Nat):Option SV:=
 match p with
 | .ptr b off=>some (.ptr b (off+n))
 | .lit (.pointer (some ⟨g,off,none⟩))=>some (.lit (.pointer (some ⟨g,off+n,none⟩)))
 |_=>none
def dv(P:Program)(s:TypeId)(p:SV)(i:Nat):Option SV:=
 match tyU P s with
 |some (.struct fields)=>match fields[i]? with
  |some f=>match bI P f.type with
   |some (_+1)=>kJ p f.offset
   |_=>none
  |none=>none
 |_=>none
def ou(v:SV)(len:Nat):Option Nat:=
 match v with
 | .lit (.int _ (.ofNat i))=>bif Nat.blt i len then some i else none
 |_=>none
def bT(P:Program)(t:TypeId)(x i:SV):Option SV:=
 match tyU P t,x with
 |some (.array len e),x=>match bI P e,ou i len with
  |some s,some k=>kJ x (k*s)
  |_,_=>none
 |some (.slice e),.slice b off len _=>match bI P e,ou i len with
  |some s,some k=>some (.ptr b (off+k*s))
  |_,_=>none
 |some (.slice e),.row b off len _ _=>match bI P e,ou i len with
  |some s,some k=>some (.ptr b (off+k*s))
  |_,_=>none
 |some (.slice e),.lit (.slice (some ⟨g,off,none⟩) len _)=>match bI P e,ou i len with
  |some s,some k=>some (.lit (.pointer (some ⟨g,off+k*s,none⟩)))
  |_,_=>none
 |_,_=>none
def kD(P:Program)(t:TypeId)(x i:SV):Option SV:=
 match tyU P t,x with
 |some (.array len e),.agg l=>match bI P e,ou i len with
  |some s,some k=>nF P e l (k*s)
  |_,_=>none
 |_,x=>match x.toLit,i.toLit with
  |some a,some b=>(pureRun P (Instr.index t a b)).map .lit
  |_,_=>none
def fZ:SV->Bool
 | .lit (.pointer (some _))| .lit (.func (.func _) _ _)=>true
 | .ptr _ _| .func (.func _) _ _| .yield _=>true
 |_=>false
def eZ(P:Program)(t:TypeId)(x y:SV):Option Bool:=
 match tyU P t,x,y with
 |some (.pointer _),.ptr _ _,.lit (.pointer none)=>some false
 |some (.pointer _),.lit (.pointer none),.ptr _ _=>some false
 |some (.pointer e),.ptr b o,.ptr b' o'=>match bI P e with
  |some (_+1)=>bif Nat.beq b b' then some (Nat.beq o o')else none
  |_=>none
 |some (.slice _),.slice _ _ _ _,.lit (.slice none _ _)=>some false
 |some (.slice _),.lit (.slice none _ _),.slice _ _ _ _=>some false
 |some (.slice _),.row _ _ _ _ _,.lit (.slice none _ _)=>some false
 |some (.slice _),.lit (.slice none _ _),.row _ _ _ _ _=>some false
 |some (.map _ _),.map _,.lit (.map none)=>some false
 |some (.map _ _),.lit (.map none),.map _=>some false
 |some (.func _ _ _),.func _ _ _,.lit .nilFunc=>some false
 |some (.func _ _ _),.yield _,.lit .nilFunc=>some false
 |some (.interface _),.iface _ _,.lit .nilIface=>some false
 |_,_,_=>none
def cP(b:Bool):SV:=.lit (.bool b)
def binQ(P:Program)(op:BinOp)(t:TypeId)(xo yo:Operand)(x y:SV):Option SV:=
 match x.toLit,y.toLit with
 |some a,some b=>(pureRun P (do eqGuard op t xo yo a b;binOp op t a b)).map .lit
 |_,_=>match op with
  | .eql=>(eZ P t x y).map cP
  | .neq=>(eZ P t x y).map λb=>cP !b
  |_=>none
def dV(v:Option SV)(dflt most:Nat):Option Nat:=
 match v with
 |none=>some dflt
 |some (.lit (.int _ (.ofNat i)))=>bif Nat.ble i most then some i else none
 |_=>none
def d9(P:Program)(t:TypeId)(x:SV)(lo hi mx:Option SV):Option SV:=
 match tyU P t,x,mx with
 |some (.slice e),.slice b off len cap,none=>match bI P e,dV hi len cap with
  |some s,some h=>match dV lo 0 h with
   |some l=>some (.slice b (bif Nat.beq cap l then off else off+l*s) (h-l) (cap-l))
   |none=>none
  |_,_=>none
 |some (.slice e),.row b off len k cv,none=>match bI P e,dV hi len k with
  |some s,some h=>match dV lo 0 h with
   |some l=>bif Nat.blt l k then some (.row b (off+l*s) (h-l) (k-l) cv)else bif Nat.beq l 0 then some (.row b off h k cv)else bif Nat.beq l k&&Nat.beq h k then some (.tail b off (off+l*s) cv)else none
   |none=>none
  |_,_=>none
 |some (.slice e),.slice b off _ cap,some m=>match bI P e,dV (some m) 0 cap with
  |some s,some m=>match hi,dV hi 0 m with
   |some _,some h=>match dV lo 0 h with
    |some l=>some (.slice b (bif Nat.beq m l then off else off+l*s) (h-l) (m-l))
    |none=>none
   |_,_=>none
  |_,_=>none
 |some (.slice e),.row b off _ k _,some m=>match bI P e,dV (some m) 0 k with
  |some s,some m=>match hi,dV hi 0 m with
   |some _,some h=>match dV lo 0 h with
    |some l=>some (.slice b (bif Nat.beq m l then off else off+l*s) (h-l) (m-l))
    |none=>none
   |_,_=>none
  |_,_=>none
 |some (.array n e),.ptr b off,none=>match bI P e,dV hi n n with
  |some s,some h=>match dV lo 0 h with
   |some l=>some (.slice b (bif Nat.beq n l then off else off+l*s) (h-l) (n-l))
   |none=>none
  |_,_=>none
 |_,.lit a,none=>match lo,hi with
  |none,none=>(pureRun P (Instr.sliceAt t a none none none)).map .lit
  |some (.lit l),none=>(pureRun P (Instr.sliceAt t a (some l) none none)).map .lit
  |none,some (.lit h)=>(pureRun P (Instr.sliceAt t a none (some h) none)).map .lit
  |some (.lit l),some (.lit h)=>(pureRun P (Instr.sliceAt t a (some l) (some h) none)).map .lit
  |_,_=>none
 |_,.lit a,some (.lit m)=>match lo,hi with
  |none,some (.lit h)=>(pureRun P (Instr.sliceAt t a none (some h) (some m))).map .lit
  |some (.lit l),some (.lit h)=>(pureRun P (Instr.sliceAt t a (some l) (some h) (some m))).map .lit
  |_,_=>none
 |_,_,_=>none
def fK(P:Program)(kt:TypeId)(k:Value):List (SV×SV×Nat)->Nat->Option (Option (Nat×SV))
 |[],_=>some none
 |(k',v,_)::es,i=>match k'.toLit with
  |some x=>match pureRun P (Op.equal kt k x)with
   |some true=>some (some (i,v))
   |some false=>fK P kt k es (i+1)
   |none=>none
  |none=>none
def d8(h:Hp)(m:SV):Option (List (SV×SV×Nat)×List Fact):=
 match m with
 | .lit (.map none)=>some ([],[])
 | .map b=>match h.objs.get b with
   |some (.map es c)=>some (es,[.obj b (.map es c)])
   |_=>none
 |_=>none
def dC(P:Program)(h:Hp)(t:TypeId)(m k:SV)(ok:Bool):Option (SV×List Fact):=
 match tyU P t,d8 h m,k.toLit with
 |some (.map kt et),some (es,fs),some kv=>
  match pureRun P (Instr.checkKey es.isEmpty 10000 kt kv),fK P kt kv es 0 with
  |some _,some (some (_,v))=>some (bif ok then .tuple [v,cP true]else v,fs)
  |some _,some none=>match dB P et with
   |some z=>some (bif ok then .tuple [.lit z,cP false]else .lit z,fs)
   |none=>none
  |_,_=>none
 |_,_,_=>none
def gy(P:Program)(h:Hp)(t:TypeId)(x:SV):Option (SV×List Fact):=
 match tyU P t,x with
 |some (.slice _),.slice _ _ n _=>some (.lit (goInt n),[])
 |some (.slice _),.row _ _ n _ _=>some (.lit (goInt n),[])
 |some (.slice _),.tail _ _ _ _=>some (.lit (goInt 0),[])
 |some (.map _ _),.map b=>match h.objs.get b with
  |some (.map es c)=>some (.lit (goInt es.length),[.obj b (.map es c)])
  |_=>none
 |_,x=>match x.toLit with
  |some a=>match pureRun P (Builtin.len_ #[t] 0 #[a])with
   |some v=>some (.lit v,[])
   |none=>none
  |none=>none
def ml:List SV->Option bn
 |[]=>some []
 | .lit (.int .u8 n)::l=>match ml l with
   |some r=>some (UInt8.ofNat n.toNat::r)
   |none=>none
 |_::_=>none
def eb(P:Program)(Γ:Glob)(h:Hp)(s d:TypeId)(x:SV):Option (SV×List Fact):=
 match tyU P s,tyU P d,x with
 |some (.slice e),some .string,.slice b off len _=>match tyU P e,bF Γ h (.ptr b off) len with
  |some (.int .u8),some (vs,fs)=>match ml vs with
   |some bs=>some (.lit (.string ⟨bs.toArray⟩),fs)
   |none=>none
  |_,_=>none
 |some (.slice e),some .string,.row b off len _ _=>match tyU P e,bF Γ h (.ptr b off) len with
  |some (.int .u8),some (vs,fs)=>match ml vs with
   |some bs=>some (.lit (.string ⟨bs.toArray⟩),fs)
   |none=>none
  |_,_=>none
 |_,_,x=>match x.toLit with
  |some a=>match pureRun P (convert s d a)with
   |some v=>some (.lit v,[])
   |none=>none
  |none=>none
def one(o:Option SV):Option (SV×List Fact):=o.map λv=>(v,[])
def lO(P:Program)(t:TypeId)(ok:Bool)(x:SV):Option SV:=
 match tyU P t with
 |none=>none
 |some (.interface _)=>none
 |some _=>match x with
  | .iface t' v=>bif Nat.beq t' t then some (bif ok then .tuple [v,cP true]else v)else bif ok then(dB P t).map λz=>.tuple [.lit z,cP false]else none
  | .lit (.iface t' v)=>bif Nat.beq t' t then some (bif ok then .tuple [.lit v,cP true]else .lit v)else bif ok then(dB P t).map λz=>.tuple [.lit z,cP false]else none
  | .lit .nilIface=>bif ok then(dB P t).map λz=>.tuple [.lit z,cP false]else none
  |_=>none
def quiet(P:Program)(Γ:Glob)(h:Hp)(ρ:Operand->SV)(op:Op):Option (SV×List Fact):=
 match op with
 | .move x| .assign x=>some (ρ x,[])
 | .pick c a b=>match ρ c with
   | .lit (.bool t)=>some (bif t then ρ a else ρ b,[])
   |_=>none
 | .load t a=>dk P Γ h t (ρ a)
 | .nilCheck x=>bif fZ (ρ x)then some (ρ x,[])else none
 | .fieldAddr s x i=>one (dv P s (ρ x) i)
 | .indexAddr t x i=>one (bT P t (ρ x) (ρ i))
 | .field t x i=>match tyU P t with
   |some (.struct fields)=>match fields[i]?,ρ x with
    |some f,.agg l=>one (nF P f.type l f.offset)
    |some f,.lit (.agg cs)=>one (nF P f.type (cs.toList.map .lit) f.offset)
    |_,_=>none
   |_=>none
 | .index t x i=>one (kD P t (ρ x) (ρ i))
 | .extract x i=>match ρ x with
   | .tuple l=>one l[i]?
   | .lit (.tuple vs)=>one ((vs[i]?).map .lit)
   |_=>none
 | .build t parts=>one (mI P t (parts.toList.map λp=>(p.1,ρ p.2)))
 | .makeFunc fn first captured=>some (.func fn (first.toList.map ρ) (captured.toList.map ρ),[])
 | .makeInterface t x=>match tyU P t with
   |some (.interface _)=>none
   |some _=>some (.iface t (ρ x),[])
   |none=>none
 | .binOp op t x y _=>one (binQ P op t x y (ρ x) (ρ y))
 | .unOp op _ x=>match(ρ x).toLit with
   |some a=>one ((pureRun P (Op.unary op a)).map .lit)
   |none=>none
 | .convert s d x=>(eb P Γ h s d (ρ x))
 | .slice t x lo hi mx=>one (d9 P t (ρ x) (lo.map ρ) (hi.map ρ) (mx.map ρ))
 | .lookup t m k ok=>(dC P h t (ρ m) (ρ k) ok)
 | .typeAssert x _ t ok=>one (lO P t ok (ρ x))
 | .call ⟨.builtin .len,args,argTypes⟩=>match args[0]?,argTypes[0]? with
   |some x,some t=>(gy P h t (ρ x))
   |_,_=>none
 | .call ⟨.builtin .max,args,argTypes⟩=>match SV.toLitL (args.toList.map ρ)with
   |some vs=>one ((pureRun P (Builtin.max_ argTypes 0 vs.toArray)).map .lit)
   |none=>none
 | .call ⟨.builtin .min,args,argTypes⟩=>match SV.toLitL (args.toList.map ρ)with
   |some vs=>one ((pureRun P (Builtin.min_ argTypes 0 vs.toArray)).map .lit)
   |none=>none
 |_=>none
def jD(P:Program)(Γ:Glob)(h:Hp)(ρ:Operand->SV)(op:Op):Option (SV×List Fact):=
 match quiet P Γ h ρ op with
 |some r=>some r
 |none=>match Γ.ask op ρ with
  |some v=>some (v,[])
  |none=>none
def di(z:List SV):Nat->List SV
 |0=>[]
 |n+1=>z++di z n
def dA(P:Program)(h:Hp)(t:TypeId)(p v:SV):Option Hp:=
 match bI P t,p with
 |some n,.ptr b off=>bif Nat.beq v.cells.length n then
  (match h.objs.get b with
   |some (.cells l e)=>(cH l off v.cells).map λl'=>h.upd b (.cells l' e)
   |some (.row l e k cv s)=>(cH l off v.cells).map λl'=>h.upd b (.row l' e k cv s)
   |_=>none)
  else none
 |_,_=>none
def ge(P:Program)(h:Hp)(t:TypeId)(len:Nat)(parts:List (Nat×SV)):Option (SV×Hp):=
 match tyU P t with
 |some (.slice e)=>match bI P e,dB P e with
  |some size,some z=>bif Nat.ble (len*size) 16777216&&Nat.beq (SV.cells (.lit z)).length size then
   (match kG (λi=>some (i*size,size)) (bif Nat.beq (len*size) 0 then[]else di (SV.cells (.lit z)) len) parts with
    |some l=>let r:=h.new (.cells l e);some (.slice r.1 0 len len,r.2)
    |none=>none)
   else none
  |_,_=>none
 |_=>none
def ff(P:Program)(h:Hp)(t:TypeId)(len cap:SV):Option (SV×Hp):=
 match tyU P t,len,cap with
 |some (.slice e),.lit (.int _ (.ofNat l)),.lit (.int _ (.ofNat c))=>match P.info? e with
  |some i=>match i.zero with
   |some z=>bif Nat.ble l c&&Nat.ble (i.bytes*c) 1048576&&Nat.ble c 1048576&&Nat.beq (SV.cells (.lit z)).length i.size then
    let r:=h.new (.cells (bif Nat.beq (c*i.size) 0 then[]else di (SV.cells (.lit z)) c) e)
    some (.slice r.1 0 l c,r.2)
    else none
   |none=>none
  |none=>none
 |_,_,_=>none
def dw:List (SV×SV×Nat)->Nat->SV->SV->List (SV×SV×Nat)
 |[],_,_,_=>[]
 |(_,_,c)::es,0,k,v=>(k,v,c)::es
 |e::es,i+1,k,v=>e::dw es i k v
def fY(P:Program)(h:Hp)(t:TypeId)(m k v:SV):Option Hp:=
 match tyU P t,m,k.toLit with
 |some (.map kt _),.map b,some kv=>match h.objs.get b with
  |some (.map es c)=>match pureRun P (Instr.checkKey false 10000 kt kv),fK P kt kv es 0 with
   |some _,some (some (i,_))=>match(es[i]?).bind λe=>e.1.toLit with
    |some old=>bif Instr.sameBits 10000 old kv then some (h.upd b (.map (dw es i k v) c))else none
    |none=>none
   |some _,some none=>some (h.upd b (.map (es++[(k,v,c)]) (c+1)))
   |_,_=>none
  |_=>none
 |_,_,_=>none
def pR(P:Program)(h:Hp)(t:TypeId)(m k:SV):Option Hp:=
 match tyU P t,m,k.toLit with
 |some (.map kt _),.lit (.map none),some kv=>match pureRun P (Instr.checkKey true 10000 kt kv)with
  |some _=>some h
  |none=>none
 |some (.map kt _),.map b,some kv=>match h.objs.get b with
  |some (.map es c)=>match pureRun P (Instr.checkKey es.isEmpty 10000 kt kv),fK P kt kv es 0 with
   |some _,some (some (i,_))=>some (h.upd b (.map (es.eraseIdx i) c))
   |some _,some none=>some (h.upd b (.map es c))
   |_,_=>none
  |_=>none
 |_,_,_=>none
def uG(P:Program)(h:Hp)(t:TypeId)(x:SV):Option Hp:=
 match tyU P t,x with
 |some (.slice _),.lit (.slice none _ _)=>some h
 |some (.slice e),.slice b off n _=>match dB P e,Nat.beq n 0 with
  |_,true=>some h
  |some z,false=>match h.objs.get b with
   |some (.cells l e')=>(cH l off (di (SV.cells (.lit z)) n)).map λl'=>h.upd b (.cells l' e')
   |some (.row l e' k cv s)=>(cH l off (di (SV.cells (.lit z)) n)).map λl'=>h.upd b (.row l' e' k cv s)
   |_=>none
  |none,_=>none
 |some (.slice e),.row b off n _ _=>match dB P e,Nat.beq n 0 with
  |_,true=>some h
  |some z,false=>match h.objs.get b with
   |some (.cells l e')=>(cH l off (di (SV.cells (.lit z)) n)).map λl'=>h.upd b (.cells l' e')
   |some (.row l e' k cv s)=>(cH l off (di (SV.cells (.lit z)) n)).map λl'=>h.upd b (.row l' e' k cv s)
   |_=>none
  |none,_=>none
 |_,_=>none
def de(Γ:Glob)(h:Hp)(size:Nat)(x:SV):Option (List SV×Nat):=
 match x with
 | .lit (.slice _ 0 _)=>some ([],0)
 | .lit (.string s)=>some (s.data.toList.map λb=>.lit (.int .u8 b.toNat),s.size)
 | .slice b off n _=>match bF Γ h (.ptr b off) (n*size)with
   |some (vs,_)=>some (vs,n)
   |none=>none
 | .row b off n _ _=>match bF Γ h (.ptr b off) (n*size)with
   |some (vs,_)=>some (vs,n)
   |none=>none
 | .lit (.slice (some ⟨g,off,none⟩) n _)=>match bF Γ h (.lit (.pointer (some ⟨g,off,none⟩))) (n*size)with
   |some (vs,_)=>some (vs,n)
   |none=>none
 |_=>none
def dh(h:Hp)(l:List SV)(e:TypeId)(len size:Nat):SV×Hp:=
 (.row h.next 0 len len h.next,⟨h.objs.set h.next (.row l e len h.next size),h.next+1⟩)
def jB:TypeDesc->Bool
 | .int _=>true
 |_=>false
def cQ(P:Program)(Γ:Glob)(h:Hp)(tys:List TypeId)(s x:SV):Option (SV×Hp):=
 match tys with
 |[st,xt]=>match tyU P st,tyU P xt with
  |some (.slice e),some xd=>bif jB xd then none else match P.info? e with
   |none=>none
   |some i=>match i.zero,de Γ h i.size x with
    |some z,some (news,n)=>bif Nat.ble i.bytes 1000&&Nat.ble n 2000000&&Nat.blt 0 i.size&&Nat.beq (SV.cells (.lit z)).length i.size&&Nat.beq news.length (n*i.size)then
     (match s with
     | .lit (.slice none 0 0)=>bif Nat.beq n 0 then some (s,h)else some (dh h news e n i.size)
     | .row b 0 len k cv=>bif Nat.ble len 2000000 then(match h.objs.get b with
      |some (.row l e' k' cv' size')=>bif Nat.beq cv cv'&&Nat.beq k k'&&Nat.ble len k&&Nat.beq size' i.size&&Nat.beq e e'&&Nat.ble (len*i.size) l.length&&news.all SV.one then
       (bif Nat.beq n 0 then some (s,h)
        else some (dh ⟨h.objs.put b none,h.next⟩ (l.take (len*i.size)++news) e (len+n) i.size))
       else none
      |_=>none)else none
     | .slice b off len cap=>bif Nat.ble cap 2000000&&Nat.ble len cap then
      (bif Nat.ble (len+n) cap then
       (match h.objs.get b with
        |some (.cells l e')=>(cH l (off+len*i.size) news).map λl'=>(.slice b off (len+n) cap,h.upd b (.cells l' e'))
        |_=>none)
       else(match bF Γ h (.ptr b off) (len*i.size)with
        |some (olds,_)=>some (dh h (olds++news) e (len+n) i.size)
        |none=>none))else none
     |_=>none)else none
    |_,_=>none
  |_,_=>none
 |_=>none
def qA(P:Program)(Γ:Glob)(h:Hp)(t:TypeId)(d s:SV):Option (SV×Hp):=
 match tyU P t with
 |some (.slice e)=>match bI P e with
  |some size=>match de Γ h size s,d with
   |some (_,_),.lit (.slice none 0 _)=>some (.lit (goInt 0),h)
   |some (vs,n),.slice b off dlen _=>let k:=Nat.min n dlen
    match h.objs.get b with
    |some (.cells l e')=>bif Nat.beq vs.length (n*size)then(cH l off (vs.take (k*size))).map λl'=>(.lit (goInt k),h.upd b (.cells l' e'))else none
    |_=>none
   |some (vs,n),.row b off dlen _ _=>let k:=Nat.min n dlen
    match h.objs.get b with
    |some (.row l e' k' cv s)=>bif Nat.beq vs.length (n*size)then(cH l off (vs.take (k*size))).map λl'=>(.lit (goInt k),h.upd b (.row l' e' k' cv s))else none
    |_=>none
   |_,_=>none
  |none=>none
 |_=>none
def jE(P:Program)(h:Hp)(t:TypeId)(x:SV):Option (SV×Hp):=
 match tyU P t,x with
 |some .string,.lit (.string s)=>let r:=h.new (.strIter s 0);some (.ptr r.1 0,r.2)
 |some (.map _ _),.lit (.map none)=>let r:=h.new (.mapIter none 0 [] 0);some (.ptr r.1 0,r.2)
 |some (.map _ _),.map b=>match h.objs.get b with
  |some (.map _ c)=>let r:=h.new (.mapIter (some b) c [] c);some (.ptr r.1 0,r.2)
  |_=>none
 |_,_=>none
def leftOf(es:List (SV×SV×Nat))(seen:List Nat):List (SV×SV×Nat):=es.filter λe=> !seen.contains e.2.2
def kE(h:Hp)(it:SV)(isString:Bool):Option (List (SV×Hp)):=
 match it,isString with
 | .ptr b 0,true=>match h.objs.get b with
   |some (.strIter s pos)=>bif Nat.blt pos s.size then
    (let d:=Utf8.decode s pos
     some [(.tuple [cP true,.lit (goInt pos),.lit (.int .i32 d.1)],h.upd b (.strIter s (pos+d.2)))])
    else some [(.tuple [cP false],h)]
   |_=>none
 | .ptr b 0,false=>match h.objs.get b with
   |some (.mapIter none _ _ _)=>some [(.tuple [cP false],h)]
   |some (.mapIter (some m) since seen last)=>match h.objs.get m with
    |some (.map es clock)=>
     bif(!seen.isEmpty&& !es.isEmpty&&es.all λe=>Nat.ble last e.2.2)then none
     else bif es.all λe=>Nat.blt e.2.2 since then
      (match leftOf es seen with
       |[]=>some [(.tuple [cP false],h)]
       |left=>some (left.map λe=>(.tuple [cP true,e.1,e.2.1],h.upd b (.mapIter (some m) since (seen++[e.2.2]) clock))))
     else none
    |_=>none
   |_=>none
 |_,_=>none
def kW(h:Hp)(it:SV):Option (SV×Hp):=
 match it with
 | .ptr b 0=>match h.objs.get b with
   |some (.mapIter (some m) _ seen last)=>match seen.getLast?,h.objs.get m with
    |some stamp,some (.map es clock)=>bif Nat.beq clock last then(match es.find? λe=>Nat.beq e.2.2 stamp with
     |some e=>some (.tuple [e.1,e.2.1],h)
     |none=>none)else none
    |_,_=>none
   |_=>none
 |_=>none
def k8(P:Program)(h:Hp)(s d:TypeId)(x:SV):Option (SV×Hp):=
 match tyU P s,tyU P d,x with
 |some .string,some (.slice e),.lit (.string t)=>match tyU P e with
  |some (.int .u8)=>some (dh h (t.data.toList.map λb=>.lit (.int .u8 b.toNat)) e t.size 1)
  |_=>none
 |some (.slice _),some (.slice e),.slice b off n c=>match Nat.beq s d,tyU P e,h.objs.get b with
  |true,some (.int .u8),some (.cells l e')=>some (.slice b off n c,h.upd b (.cells l e'))
  |true,some (.int .u8),some (.row l e' k cv z)=>some (.slice b off n c,h.upd b (.row l e' k cv z))
  |_,_,_=>none
 |some (.slice _),some (.slice e),.row b off n k' cv'=>match Nat.beq s d,tyU P e,h.objs.get b with
  |true,some (.int .u8),some (.cells l e')=>some (.row b off n k' cv',h.upd b (.cells l e'))
  |true,some (.int .u8),some (.row l e' k cv z)=>some (.row b off n k' cv',h.upd b (.row l e' k cv z))
  |_,_,_=>none
 |_,_,_=>none
def val(o:Option (SV×Hp)):Option (List (SV×Hp)):=o.map λx=>[x]
def mi(o:Option Hp):Option (List (SV×Hp)):=o.map λh=>[(.lit undef,h)]
def done(o:Option Hp):Option (List (SV×Hp)):=o.map λh=>[(.lit (.tuple #[]),h)]
def effect(P:Program)(Γ:Glob)(h:Hp)(ρ:Operand->SV)(op:Op):Option (List (SV×Hp)):=
 match op with
 | .store t a x=>mi (dA P h t (ρ a) (ρ x))
 | .alloc e=>val ((dB P e).map λz=>let r:=h.new (.cells (SV.cells (.lit z)) e);(.ptr r.1 0,r.2))
 | .box e x=>some [(let r:=h.new (.cells (ρ x).cells e);(.ptr r.1 0,r.2))]
 | .buildSlice t len parts=>val (ge P h t len (parts.toList.map λp=>(p.1,ρ p.2)))
 | .makeMap t none=>match tyU P t with
   |some (.map _ _)=>let r:=h.new (.map [] 0);some [(.map r.1,r.2)]
   |_=>none
 | .makeMap t (some x)=>match tyU P t,ρ x with
   |some (.map _ _),.lit (.int _ _)=>let r:=h.new (.map [] 0);some [(.map r.1,r.2)]
   |_,_=>none
 | .makeSlice t l c=>val (ff P h t (ρ l) (ρ c))
 | .mapUpdate t m k x| .insert t m k x=>mi (fY P h t (ρ m) (ρ k) (ρ x))
 | .range t x=>val (jE P h t (ρ x))
 | .next it isString=>kE h (ρ it) isString
 | .entry it=>val (kW h (ρ it))
 | .convert s d x=>val (k8 P h s d (ρ x))
 | .call ⟨.builtin .append,args,argTypes⟩=>match args.toList with
   |[s,x]=>val (cQ P Γ h argTypes.toList (ρ s) (ρ x))
   |_=>none
 | .call ⟨.builtin .copy,args,argTypes⟩=>match args.toList,argTypes[0]? with
   |[d,s],some t=>val (qA P Γ h t (ρ d) (ρ s))
   |_,_=>none
 | .call ⟨.builtin .delete,args,argTypes⟩=>match args.toList,argTypes[0]? with
   |[m,k],some t=>done (pR P h t (ρ m) (ρ k))
   |_,_=>none
 | .call ⟨.builtin .clear,args,argTypes⟩=>match args.toList,argTypes[0]? with
   |[x],some t=>done (uG P h t (ρ x))
   |_,_=>none
 |_=>none
inductive Callee' where
 |fn (f:FuncId) (args:List SV)
 |round (b:Nat) (args:List SV)
def cz(ρ:Operand->SV)(op:Op):Option Callee':=
 match op with
 | .call ⟨.value f,args,_⟩=>match ρ f with
   | .lit (.func (.func g) a b)=>some (.fn g (a.toList.map .lit++args.toList.map ρ++b.toList.map .lit))
   | .func (.func g) a b=>some (.fn g (a++args.toList.map ρ++b))
   | .yield b=>some (.round b (args.toList.map ρ))
   |_=>none
 |_=>none
inductive SExit where
 |normal
 |exit (id:Nat)
 |ret
structure Out where
 exit:SExit
 fr:Fr
 hp:Hp
 v:SV
abbrev R:=Option (List Out)
inductive Task where
 |code (c:Code) (ro:Option Nat) (fr:Fr) (hp:Hp)
 |call (f:FuncId) (args:List SV) (hp:Hp)
 |round (b:Nat) (args:List SV) (hp:Hp)
def ew{α β:Type}(f:α->Option (List β)):List α->Option (List β)
 |[]=>some []
 |a::l=>match f a,ew f l with
  |some x,some y=>some (x++y)
  |_,_=>none
def cL(ops:Array Oper)(fr:Fr)(o:Oper):Option Bool:=
 match o.guard with
 |none=>some true
 |some (j,want)=>match(ops[j]?).bind (·.dst)with
  |none=>some false
  |some t=>bif Nat.blt t fr.sz then(match fr.ev (.tmp t)with
   | .lit (.bool b)=>some (b==want)
   | .lit _=>some false
   |_=>none)else some false
def gw(P:Program)(h:Hp)(f:FuncId)(args:List SV):Option (SV×Hp):=
 match P.funcs[f]?,args with
 |some fn,[.iface t (.map b)]=>bif fn.body.isNone&&(fn.name== "maps.clone")&&(fn.origin== "" ||fn.origin== "maps.clone")then(match h.objs.get b with
  |some (.map es c)=>let r:=h.new (.map es c);some (.iface t (.map r.1),r.2)
  |_=>none)else none
 |_,_=>none
def lW(P:Program)(Γ:Glob)(self:Task->R)(fr:Fr)(hp:Hp)(o:Oper):Option (List (SV×Hp)):=
 match cz fr.ev o.op with
 |some (.fn f args)=>match gw P hp f args with
  |some x=>some [x]
  |none=>(self (.call f args hp)).map λouts=>outs.map λx=>(x.v,x.hp)
 |some (.round b args)=>(self (.round b args hp)).map λouts=>outs.map λx=>(x.v,x.hp)
 |none=>match effect P Γ hp fr.ev o.op with
  |none=>none
  |some outs=>bif outs.all (λr=>Nat.ble hp.next r.2.next)then some outs else none
def oper(P:Program)(Γ:Glob)(self:Task->R)(ops:Array Oper)(fr:Fr)(hp:Hp)(o:Oper):Option (List (Fr×Hp)):=
 match cL ops fr o with
 |none=>none
 |some false=>(fr.put o.dst (.lit undef)).map λf=>[(f,hp)]
 |some true=>match jD P Γ hp fr.ev o.op with
  |some (v,_)=>(fr.put o.dst v).map λf=>[(f,hp)]
  |none=>match lW P Γ self fr hp o with
   |some rs=>ew (λr=>(fr.put o.dst r.1).map λf=>[(f,r.2)]) rs
   |none=>none
def iM(P:Program)(Γ:Glob)(self:Task->R)(ops:Array Oper):List Oper->Fr->Hp->R
 |[],fr,hp=>some [⟨.normal,fr,hp,.lit undef⟩]
 |o::rest,fr,hp=>match oper P Γ self ops fr hp o with
  |some l=>ew (λx=>iM P Γ self ops rest x.1 x.2) l
  |none=>none
def depsOf(o:Oper):Nat:=o.after.foldl (λs e=>bif Region.binds .any e then s|||2^e.on else s) 0
def descOf(i:Nat):List Oper->Nat->Nat->Nat
 |[],_,d=>d
 |o::l,k,d=>descOf i l (k+1) (bif Nat.beq (Nat.land (depsOf o) (d|||2^i)) 0 then d else d|||2^k)
structure Held where
 desc:Nat
 facts:List Fact
 chg:Option (Nat×AObj)
def dr:Value->Value->Bool
 | .int k a,.int k' b=>k==k'&&a==b
 | .bool a,.bool b=>a==b
 | .string a,.string b=>a.data.toList==b.data.toList
 | .pointer none,.pointer none=>true
 | .slice none a b,.slice none c d=>a==c&&b==d
 | .slice (some x) a b,.slice (some y) c d=>decide (x=y)&&Nat.beq a c&&Nat.beq b d
 | .pointer (some x),.pointer (some y)=>decide (x=y)
 | .map none,.map none=>true
 | .nilFunc,.nilFunc=>true
 | .nilIface,.nilIface=>true
 | .func (.func f) ⟨[]⟩ ⟨[]⟩,.func (.func g) ⟨[]⟩ ⟨[]⟩=>Nat.beq f g
 |_,_=>false
mutual
def SV.same:SV->SV->Bool
 | .lit x,.lit y=>dr x y
 | .ptr a b,.ptr c d=>a==c&&b==d
 | .slice a b c d,.slice a' b' c' d'=>a==a'&&b==b'&&c==c'&&d==d'
 | .row a b c d e,.row a' b' c' d' e'=>a==a'&&b==b'&&c==c'&&d==d'&&e==e'
 | .map a,.map b=>a==b
 | .agg l,.agg l'=>SV.sameL l l'
 | .num k i,.num k' j=>k==k'&&i==j
 | .opq i,.opq j=>i==j
 | .func (.func f) a c,.func (.func g) a' c'=>Nat.beq f g&&(SV.sameL a a'&&SV.sameL c c')
 | .iface t v,.iface u v'=>Nat.beq t u&&SV.same v v'
 | .tuple l,.tuple l'=>SV.sameL l l'
 |_,_=>false
def SV.sameL:List SV->List SV->Bool
 |[],[]=>true
 |a::l,b::m=>SV.same a b&&SV.sameL l m
 |_,_=>false
end
def jh:List (SV×SV×Nat)->List (SV×SV×Nat)->Bool
 |[],[]=>true
 |(k,v,c)::l,(k',v',c')::m=>SV.same k k'&&SV.same v v'&&Nat.beq c c'&&jh l m
 |_,_=>false
def eW(h:Hp):Fact->Bool
 | .cells b off vs=>match(knownCells h b).bind (cut · off vs.length)with
   |some ws=>SV.sameL vs ws
   |none=>false
 | .obj b (.map es c)=>match h.objs.get b with
   |some (.map es' c')=>Nat.beq c c'&&jh es es'
   |_=>false
 | .obj _ _=>false
def Fact.blk:Fact->Nat
 | .cells b _ _=>b
 | .obj b _=>b
def Held.at(x:Held):Option Nat:=x.chg.map (·.1)
def hidden(i:Nat):List Held->Nat->Bool
 |[],_=>false
 |x::l,b=>(match x.chg with
  |some (b',_)=> !Nat.testBit x.desc i&&Nat.beq b b'
  |none=>false)||hidden i l b
def hide(i:Nat):List Held->T AObj->T AObj
 |[],t=>t
 |x::l,t=>match x.chg with
  |some (b,_)=>bif Nat.testBit x.desc i then hide i l t else hide i l (t.put b none)
  |none=>hide i l t
def fG(i:Nat)(t r:T AObj):List Held->T AObj->Option (T AObj)
 |[],acc=>some acc
 |x::l,acc=>match x.chg with
  |some (b,_)=>bif Nat.testBit x.desc i then fG i t r l acc else(match r.get b with
   |some _=>none
   |none=>fG i t r l (acc.put b (t.get b)))
  |none=>fG i t r l acc
def dx(r:Hp)(i:Nat)(all:List Held):List Held->Bool
 |[]=>true
 |x::l=>(bif Nat.testBit x.desc i then true else x.facts.all λf=>hidden i all f.blk||eW r f)&&dx r i all l
def cE(i b:Nat):List Held->Bool
 |[]=>true
 |x::l=>(bif Nat.testBit x.desc i then true else x.facts.all λf=> !Nat.beq f.blk b)&&cE i b l
def drop(i:Nat):List Held->List Held
 |[]=>[]
 |x::l=>bif Nat.testBit x.desc i then drop i l else x::drop i l
def fF(P:Program)(h:Hp)(ρ:Operand->SV)(op:Op):Option (SV×Nat×AObj×Nat):=
 match op with
 | .alloc e=>(dB P e).map λz=>(.ptr h.next 0,h.next,.cells (SV.cells (.lit z)) e,h.next+1)
 | .box e x=>some (.ptr h.next 0,h.next,.cells (ρ x).cells e,h.next+1)
 | .makeMap t none=>match tyU P t with
   |some (.map _ _)=>some (.map h.next,h.next,.map [] 0,h.next+1)
   |_=>none
 | .makeMap t (some x)=>match tyU P t,ρ x with
   |some (.map _ _),.lit (.int _ _)=>some (.map h.next,h.next,.map [] 0,h.next+1)
   |_,_=>none
 | .store t a x=>match bI P t,ρ a with
   |some n,.ptr b off=>bif Nat.beq (ρ x).cells.length n then
    (match h.objs.get b with
     |some (.cells l e)=>(cH l off (ρ x).cells).map λl'=>(.lit undef,b,.cells l' e,h.next)
     |some (.row l e k cv s)=>(cH l off (ρ x).cells).map λl'=>(.lit undef,b,.row l' e k cv s,h.next)
     |_=>none)
    else none
   |_,_=>none
 |_=>none
def ct(P:Program)(Γ:Glob)(ops:Array Oper):List Oper->Nat->Nat->List Held->Fr->Hp->Option (Nat×List Held×Fr×Hp)
 |[],_,mask,held,fr,hp=>some (mask,held,fr,hp)
 |o::rest,i,mask,held,fr,hp=>
  bif Nat.testBit mask i then ct P Γ ops rest (i+1) mask held fr hp
  else bif Nat.beq (Nat.land (depsOf o) mask) (depsOf o)then
   (match cL ops fr o with
    |none=>none
    |some false=>match fr.put o.dst (.lit undef)with
     |some f=>ct P Γ ops rest (i+1) (mask|||2^i) held f hp
     |none=>none
    |some true=>match jD P Γ ⟨hide i held hp.objs,hp.next⟩ fr.ev o.op with
     |some (v,fs)=>match fr.put o.dst v with
      |some f=>ct P Γ ops rest (i+1) (mask|||2^i) (match fs with
       |[]=>held
       |_=>⟨descOf i ops.toList 0 0,fs,none⟩::held) f hp
      |none=>none
     |none=>match fF P ⟨hide i held hp.objs,hp.next⟩ fr.ev o.op with
      |some (v,b,ob,nx)=>bif cE i b held then(match fr.put o.dst v with
       |some f=>ct P Γ ops rest (i+1) (mask|||2^i) (⟨descOf i ops.toList 0 0,[],some (b,ob)⟩::held) f ⟨hp.objs.set b ob,nx⟩
       |none=>none)else ct P Γ ops rest (i+1) mask held fr hp
      |none=>ct P Γ ops rest (i+1) mask held fr hp)
  else ct P Γ ops rest (i+1) mask held fr hp
def dE(mask:Nat):List Oper->Nat->List (Nat×Oper)
 |[],_=>[]
 |o::rest,i=>bif !Nat.testBit mask i&&Nat.beq (Nat.land (depsOf o) mask) (depsOf o)then(i,o)::dE mask rest (i+1)else dE mask rest (i+1)
def iB(P:Program)(Γ:Glob)(self:Task->R)(ops:Array Oper)(go:Nat->List Held->Fr->Hp->R)(mask:Nat)(held:List Held)(fr:Fr)(hp:Hp)(io:Nat×Oper):R:=
 match cL ops fr io.2 with
 |some true=>match lW P Γ self fr ⟨hide io.1 held hp.objs,hp.next⟩ io.2 with
  |none=>none
  |some outs=>ew (λr=>match fG io.1 hp.objs r.2.objs held r.2.objs,fr.put io.2.dst r.1 with
   |some t,some f=>bif dx r.2 io.1 held held then go (mask|||2^io.1) (drop io.1 held) f ⟨t,r.2.next⟩else none
   |_,_=>none) outs
 |_=>none
def drawn(P:Program)(Γ:Glob)(self:Task->R)(ops:Array Oper):Nat->Nat->List Held->Fr->Hp->R
 |0,_,_,_,_=>none
 |n+1,mask,held,fr,hp=>match ct P Γ ops ops.toList 0 mask held fr hp with
  |none=>none
  |some x=>match dE x.1 ops.toList 0 with
   |[]=>bif Nat.beq x.1 (2^ops.size-1)then some [⟨.normal,x.2.2.1,x.2.2.2,.lit undef⟩]else none
   |rs=>ew (iB P Γ self ops (drawn P Γ self ops n) x.1 x.2.1 x.2.2.1 x.2.2.2) rs
def iL(ops:Array Oper)(o:Oper):Nat:=
 (o.looksAt ops).foldl (λs t=>s|||2^t) 0
def lJ(o:Oper):Nat:=match o.dst with
 |some d=>2^d
 |none=>0
def isSelect:Op->Bool
 | .select .. =>true
 |_=>false
def isDefer:Op->Bool
 | .defer _=>true
 |_=>false
def j7(ops:Array Oper)(j:Nat)(d l:Nat):List Oper->Nat->Nat->Bool
 |[],_,_=>true
 |o::rest,i,deps=>(bif Nat.beq i j then true else bif Nat.testBit deps i then true
   else Nat.beq (Nat.land (lJ o) (l|||d)) 0&&Nat.beq (Nat.land d (iL ops o)) 0)&&j7 ops j d l rest (i+1) deps
def eJ(ops:Array Oper):List Oper->Nat->Bool
 |[],_=>true
 |o::rest,j=> !isSelect o.op&& !isDefer o.op&&Nat.blt (depsOf o) (2^j)&&j7 ops j (lJ o) (iL ops o) (ops.toList.take j) 0 (depsOf o)&&eJ ops rest (j+1)
def kU(f:Fr->Hp->R)(outs:List Out):R:=
 ew (λx=>match x.exit with
  | .normal=>f x.fr x.hp
  |_=>some [x]) outs
def jC:List (Tmp×SV)->Fr->Option Fr
 |[],f=>some f
 |(t,v)::l,f=>match f.put (some t) v with
  |some f'=>jC l f'
  |none=>none
def dX(P:Program)(Γ:Glob)(fr:Fr)(hp:Hp):List ResultVar->Option (List SV)
 |[]=>some []
 | .tmp t::l=>(dX P Γ fr hp l).map λr=>fr.ev (.tmp t)::r
 | .cell a t::l=>match dk P Γ hp t (fr.ev (.tmp a)),dX P Γ fr hp l with
   |some (v,_),some r=>some (v::r)
   |_,_=>none
def eH:List Nat->Hp->Option Hp
 |[],h=>some h
 |b::l,h=>match h.objs.get b with
  |some (.deferred true)=>eH l (h.upd b (.deferred false))
  |_=>none
def g8(P:Program)(Γ:Glob)(fn:Func)(x:Out):R:=
 match x.exit with
 | .exit _=>none
 |_=>match eH x.fr.marks x.hp with
  |none=>none
  |some h=>match dX P Γ x.fr h fn.results.toList with
   |some [v]=>some [⟨.ret,x.fr,h,v⟩]
   |some vs=>some [⟨.ret,x.fr,h,.tuple vs⟩]
   |none=>none
def gG(h:Hp)(b:Nat)(jump:Option Code):Option (SV×Hp):=
 match h.objs.get b with
 |some (.loop l)=>some (cP jump.isNone,h.upd b (.loop {l with state:=bif jump.isNone then .ready else .done,pending:=jump}))
 |_=>none
def lR(ro:Option Nat)(fr:Fr)(hp:Hp):Option (Nat×Fr×Hp):=
 match ro with
 |some l=>match hp.objs.get l with
  |some (.loop x)=>some (x.defers,fr,hp)
  |_=>none
 |none=>let r:=hp.new (.deferred true);some (r.1,{fr with marks:=r.1::fr.marks},r.2)
def gE(g:SV)(b:Nat):Option (FuncId×List SV):=
 match g with
 | .lit (.func (.func f) x y)=>some (f,x.toList.map SV.lit++[SV.yield b]++y.toList.map SV.lit)
 | .func (.func f) x y=>some (f,x++[SV.yield b]++y)
 |_=>none
def gu(b:Nat)(fr:Fr)(x:Out):R:=
 match x.hp.objs.get b with
 |some (.loop l)=>match l.state with
  | .busy=>none
  |_=>match l.pending with
   |none=>some [⟨.normal,fr,x.hp.upd b (.loop {l with state:=.exhausted}),.lit undef⟩]
   |some .ret=>some [⟨.ret,fr,x.hp.upd b (.loop {l with state:=.exhausted}),.lit undef⟩]
   |some (.exit id)=>some [⟨.exit id,fr,x.hp.upd b (.loop {l with state:=.exhausted}),.lit undef⟩]
   |_=>none
 |_=>none
def eG(b:Nat)(y:Out):R:=
 match(match y.exit with
  | .normal=>gG y.hp b none
  | .ret=>gG y.hp b (some .ret)
  | .exit id=>gG y.hp b (some (.exit id)))with
 |some r=>some [⟨.ret,y.fr,r.2,r.1⟩]
 |none=>none
def gJ(self:Task->R)(b:Nat)(body:Code)(x:Out):R:=
 match x.exit,x.hp.objs.get b with
 | .normal,some (.loop l)=>match l.state with
   | .ready=>match self (.code body (some b) x.fr (x.hp.upd b (.loop {l with state:=.busy})))with
     |none=>none
     |some outs=>ew (eG b) outs
   |_=>none
 |_,_=>none
def bO(P:Program)(Γ:Glob)(self:Task->R):Task->R
 | .code .skip _ fr hp=>some [⟨.normal,fr,hp,.lit undef⟩]
 | .code (.label _) _ fr hp=>some [⟨.normal,fr,hp,.lit undef⟩]
 | .code .ret _ fr hp=>some [⟨.ret,fr,hp,.lit undef⟩]
 | .code (.exit id) _ fr hp=>some [⟨.exit id,fr,hp,.lit undef⟩]
 | .code (.seq a b) ro fr hp=>match self (.code a ro fr hp)with
   |some outs=>kU (λf h=>self (.code b ro f h)) outs
   |none=>none
 | .code (.cond c x y) ro fr hp=>match fr.ev c with
   | .lit (.bool true)=>self (.code x ro fr hp)
   | .lit (.bool false)=>self (.code y ro fr hp)
   |_=>none
 | .code (.block id c) ro fr hp=>match self (.code c ro fr hp)with
   |some outs=>some (outs.map λx=>match x.exit with
    | .exit k=>bif Nat.beq k id then{x with exit:=.normal}else x
    |_=>x)
   |none=>none
 | .code (.loop c) ro fr hp=>match self (.code c ro fr hp)with
   |some outs=>kU (λf h=>self (.code (.loop c) ro f h)) outs
   |none=>none
 | .code (.scope c) ro fr hp=>self (.code c ro fr hp)
 | .code (.region _ ops false) _ fr hp=>iM P Γ self ops ops.toList fr hp
 | .code (.region _ ops true) _ fr hp=>bif eJ ops ops.toList 0 then drawn P Γ self ops (ops.size+1) 0 [] fr hp else none
 | .code (.rangeFunc g ps assign body) ro fr hp=>match lR ro fr hp with
   |none=>none
   |some s=>let r:=s.2.2.new (.loop ⟨.ready,none,0,fr.tmps,fr.sz,ps,assign,body,s.1⟩)
    match gE (fr.ev g) r.1 with
    |none=>none
    |some c=>match self (.call c.1 c.2 r.2)with
     |none=>none
     |some outs=>ew (gu r.1 s.2.1) outs
 | .code _ _ _ _=>none
 | .call f args hp=>match P.funcs[f]? with
   |none=>none
   |some fn=>match fn.body with
    |none=>none
    |some c=>match self (.code c none ⟨T.ofList args 0 .leaf,Nat.max fn.ntmps args.length,[]⟩ hp)with
     |some outs=>ew (g8 P Γ fn) outs
     |none=>none
 | .round b args hp=>match hp.objs.get b with
   |some (.loop l)=>bif Nat.beq args.length l.params.size then
    (match jC (l.params.toList.zip args) ⟨l.tmps,l.sz,[]⟩with
     |none=>none
     |some fr=>match self (.code l.assign (some b) fr hp)with
      |none=>none
      |some outs=>ew (gJ self b l.body) outs)
    else none
   |_=>none
def run(P:Program)(Γ:Glob)(n:Nat):Task->R:=Nat.rec (λ_=>none) (λ_ ih=>bO P Γ ih) n
theorem fl{a b:Nat}(h:a=b):Nat.beq a b=true:=by subst h;exact Nat.beq_refl a
theorem fH{a b:Nat}(h:a≠b):Nat.beq a b=false:=by
 cases e:Nat.beq a b with
 |false=>rfl
 |true=>exact absurd (aj e) h
theorem eq_of_beq{a b:Nat}(h:Nat.beq a b=true):a=b:=aj h
theorem ej{a b:Nat}(h:Nat.beq a b=false):a≠b:=λe=>by rw[fl e]at h;cases h
theorem dy{a b:Nat}(h:Nat.ble a b=true):a<=b:=aG h
theorem ca{a b:Nat}(h:Nat.blt a b=true):a<b:=aG h
section tree
variable {α:Type}
@[simp] theorem T.get_leaf (n:Nat):(T.leaf:T α).get n=none:=rfl
theorem T.get_node(l:T α)(v:Option α)(r:T α)(n:Nat):
 (T.node l v r).get n=if n=0 then v else if n%2=1 then l.get (n/2)else r.get (n/2-1):=by
 simp only[T.get];by_cases h:n=0
 .subst h;rfl
 .have h0:Nat.beq n 0=false:=fH h;rw[h0,bh h];by_cases h1:n%2=1
  .rw[h1,bi rfl];rfl
  .have:Nat.beq (n%2) 1=false:=fH h1;rw[this,bh h1];rfl
theorem T.get_parts(t:T α)(n:Nat):
 t.get n=if n=0 then t.here else if n%2=1 then t.left.get (n/2)else t.right.get (n/2-1):=by
 cases t with
 |leaf=>simp[T.here,T.left,T.right]
 |node l v r=>rw[T.get_node];rfl
theorem T.get_putF(o:Option α):∀(f:Nat) (t:T α) (n m:Nat),n<=f->(T.putF o f t n).get m=if m=n then o else t.get m:=by
 intro f
 induction f with
 |zero=>
  intro t n m h;obtain rfl:n=0:=by omega
  rw[T.putF,T.get_node,T.get_parts t m];by_cases hm:m=0<;>simp[hm]
 |succ f ih=>
  intro t n m h;rw[T.putF];by_cases hn:n=0
  .subst hn;rw[fl rfl,bf];rw[T.get_node,T.get_parts t m];by_cases hm:m=0<;>simp[hm]
  .have h0:Nat.beq n 0=false:=fH hn;rw[h0,bg];by_cases h1:n%2=1
   .rw[fl h1,bf,T.get_node,T.get_parts t m,ih _ _ _ bj];by_cases hm:m=0
    .rw[bi hm,bi hm,bh bj]
    .rw[bh hm,bh hm];by_cases hm1:m%2=1
     .rw[bi hm1,bi hm1];by_cases e:m=n
      .rw[bi e,bi bj]
      .rw[bh e,bh bj]
     .rw[bh hm1,bh hm1,bh bj]
   .have hb:Nat.beq (n%2) 1=false:=fH h1;rw[hb,bg,T.get_node,T.get_parts t m,ih _ _ _ bj];by_cases hm:m=0
    .rw[bi hm,bi hm,bh bj]
    .rw[bh hm,bh hm];by_cases hm1:m%2=1
     .rw[bi hm1,bi hm1,bh bj]
     .rw[bh hm1,bh hm1];by_cases e:m=n
      .rw[bi e,bi bj]
      .rw[bh e,bh bj]
theorem T.get_put(t:T α)(n:Nat)(o:Option α)(m:Nat):(t.put n o).get m=if m=n then o else t.get m:=T.get_putF o n t n m (av _)
theorem T.get_set(t:T α)(n:Nat)(a:α)(m:Nat):(t.set n a).get m=if m=n then some a else t.get m:=T.get_put t n (some a) m
theorem T.get_ofList(l:List α):∀(k:Nat) (t:T α) (m:Nat),(T.ofList l k t).get m=if k<=m/\m<k+l.length then l[m-k]? else t.get m:=by
 induction l with
 |nil=>intro k t m;rw[T.ofList,bh (by simp only[aw];omega)]
 |cons a l ih=>
  intro k t m;rw[T.ofList,ih,T.get_set];simp only[au];by_cases h:k+1<=m/\m<k+1+l.length
  .rw[bi h,bi bj,show m-k=(m-(k+1))+1 by omega,List.getElem?_cons_succ]
  .rw[bh h];by_cases e:m=k
   .subst e;rw[bi rfl,bi bj];simp
   .rw[bh e,bh bj]
end tree
structure Ren where
 blk:Nat->Nat
 cap:Nat->Nat
 num:Nat->Int
 opq:Nat->Value
def oneOf:Value->Value
 | .agg _=>.bool false
 | .tuple _=>.bool false
 |v=>v
mutual
def conc(θ:Ren):SV->Value
 | .lit v=>v
 | .ptr b off=>.pointer (some ⟨θ.blk b,off,none⟩)
 | .slice b off len cap=>.slice (some ⟨θ.blk b,off,none⟩) len cap
 | .row b off len k cv=>.slice (some ⟨θ.blk b,off,none⟩) len (k+θ.cap cv)
 | .map b=>.map (some (θ.blk b))
 | .func fn a c=>.func fn (concL θ a).toArray (concL θ c).toArray
 | .yield b=>.func (.yield (θ.blk b)) #[] #[]
 | .iface t v=>.iface t (conc θ v)
 | .agg l=>.agg (concL θ l).toArray
 | .tuple l=>.tuple (concL θ l).toArray
 | .num k i=>.int k (θ.num i)
 | .opq i=>oneOf (θ.opq i)
 | .tail b o1 o2 cv=>.slice (some ⟨θ.blk b,bif Nat.beq (θ.cap cv) 0 then o1 else o2,none⟩) 0 (θ.cap cv)
def concL(θ:Ren):List SV->List Value
 |[]=>[]
 |v::l=>conc θ v::concL θ l
end
theorem cV(θ:Ren)(l:List SV):concL θ l=l.map (conc θ):=by
 induction l with
 |nil=>rfl
 |cons a l ih=>rw[concL,ih,ax]
@[simp] theorem bH (θ:Ren) (l:List SV):(concL θ l).length=l.length:=by rw[cV,ao]
theorem eO(θ:Ren)(l m:List SV):concL θ (l++m)=concL θ l++concL θ m:=by simp only[cV,aH]
theorem kA(θ:Ren)(l:List Value):concL θ (l.map .lit)=l:=by
 rw[cV,List.map_map];exact(List.map_congr_left (λ_ _=>rfl)).trans (List.map_id l)
theorem ez(θ:Ren)(l:List SV)(i:Nat):(concL θ l)[i]? =(l[i]?).map (conc θ):=by rw[cV,aV]
mutual
def SV.ok(K:Nat->Prop):SV->Prop
 | .lit _=>True
 | .ptr b _=>K b
 | .slice b _ _ _=>K b
 | .row b _ _ _ cv=>K b/\K cv
 | .map b=>K b
 | .func _ a c=>SV.okL K a/\SV.okL K c
 | .yield b=>K b
 | .iface _ v=>v.ok K
 | .agg l=>SV.okL K l
 | .tuple l=>SV.okL K l
 | .num _ i=>K i
 | .opq i=>K i
 | .tail b _ _ cv=>K b/\K cv
def SV.okL(K:Nat->Prop):List SV->Prop
 |[]=>True
 |v::l=>v.ok K/\SV.okL K l
end
theorem dQ(K:Nat->Prop)(l:List SV):SV.okL K l↔∀v∈l,v.ok K:=by
 induction l with
 |nil=>simp[SV.okL]
 |cons a l ih=>simp[SV.okL,ih]
structure Ext(K:Nat->Prop)(θ θ':Ren):Prop where
 blk:∀i,K i->θ'.blk i=θ.blk i
 cap:∀i,K i->θ'.cap i=θ.cap i
 num:∀i,K i->θ'.num i=θ.num i
 opq:∀i,K i->θ'.opq i=θ.opq i
theorem Ext.refl(K:Nat->Prop)(θ:Ren):Ext K θ θ:=⟨λ_ _=>rfl,λ_ _=>rfl,λ_ _=>rfl,λ_ _=>rfl⟩
theorem Ext.trans{K K':Nat->Prop}{θ θ' θ'':Ren}(h:Ext K θ θ')(hk:∀i,K i->K' i)(h':Ext K' θ' θ''):Ext K θ θ'':=
 ⟨λi hi=>(h'.blk i (hk i hi)).trans (h.blk i hi),λi hi=>(h'.cap i (hk i hi)).trans (h.cap i hi),λi hi=>(h'.num i (hk i hi)).trans (h.num i hi),
  λi hi=>(h'.opq i (hk i hi)).trans (h.opq i hi)⟩
mutual
theorem gT{K:Nat->Prop}{θ θ':Ren}(h:Ext K θ θ'):∀v:SV,v.ok K->conc θ' v=conc θ v
 | .lit _,_=>rfl
 | .ptr b _,hk=>by simp only[conc,h.blk b hk]
 | .slice b _ _ _,hk=>by simp only[conc,h.blk b hk]
 | .row b _ _ _ cv,hk=>by simp only[conc,h.blk b hk.1,h.cap cv hk.2]
 | .map b,hk=>by simp only[conc,h.blk b hk]
 | .func _ a c,hk=>by simp only[conc,eV h a hk.1,eV h c hk.2]
 | .yield b,hk=>by simp only[conc,h.blk b hk]
 | .iface _ v,hk=>by simp only[conc,gT h v hk]
 | .agg l,hk=>by simp only[conc,eV h l hk]
 | .tuple l,hk=>by simp only[conc,eV h l hk]
 | .num _ i,hk=>by simp only[conc,h.num i hk]
 | .opq i,hk=>by simp only[conc,h.opq i hk]
 | .tail b _ _ cv,hk=>by simp only[conc,h.blk b hk.1,h.cap cv hk.2]
theorem eV{K:Nat->Prop}{θ θ':Ren}(h:Ext K θ θ'):∀l:List SV,SV.okL K l->concL θ' l=concL θ l
 |[],_=>rfl
 |v::l,hk=>by simp only[concL,gT h v hk.1,eV h l hk.2]
end
mutual
theorem ok_mono{K K':Nat->Prop}(h:∀i,K i->K' i):∀v:SV,v.ok K->v.ok K'
 | .lit _,_=>trivial
 | .ptr _ _,hk=>h _ hk
 | .slice _ _ _ _,hk=>h _ hk
 | .row _ _ _ _ _,hk=>⟨h _ hk.1,h _ hk.2⟩
 | .map _,hk=>h _ hk
 | .func _ a c,hk=>⟨fL h a hk.1,fL h c hk.2⟩
 | .yield _,hk=>h _ hk
 | .iface _ v,hk=>ok_mono h v hk
 | .agg l,hk=>fL h l hk
 | .tuple l,hk=>fL h l hk
 | .num _ _,hk=>h _ hk
 | .opq _,hk=>h _ hk
 | .tail _ _ _ _,hk=>⟨h _ hk.1,h _ hk.2⟩
theorem fL{K K':Nat->Prop}(h:∀i,K i->K' i):∀l:List SV,SV.okL K l->SV.okL K' l
 |[],_=>trivial
 |v::l,hk=>⟨ok_mono h v hk.1,fL h l hk.2⟩
end
theorem gk(K:Nat->Prop)(l:List Value):SV.okL K (l.map .lit):=(dQ _ _).2 λv hv=>by
 obtain⟨x,_,rfl⟩:=List.mem_map.1 hv;trivial
theorem dn{K:Nat->Prop}{l m:List SV}(h:SV.okL K l)(h':SV.okL K m):SV.okL K (l++m):=
 (dQ _ _).2 λv hv=>(List.mem_append.1 hv).elim ((dQ _ _).1 h v) ((dQ _ _).1 h' v)
theorem fP{K:Nat->Prop}{l m:List SV}(h:SV.okL K l)(hs:∀v∈m,v∈l):SV.okL K m:=
 (dQ _ _).2 λv hv=>(dQ _ _).1 h v (hs v hv)
mutual
theorem cW(θ:Ren):∀(v:SV) (x:Value),v.toLit=some x->conc θ v=x
 | .lit v,x,h=>by simp only[SV.toLit,a7]at h;exact h
 | .agg l,x,h=>by
   simp only[SV.toLit]at h;split at h
   .rename_i vs hvs;simp only[a7]at h;subst h;simp only[conc,gY θ l vs hvs]
   .cases h
 | .tuple l,x,h=>by
   simp only[SV.toLit]at h;split at h
   .rename_i vs hvs;simp only[a7]at h;subst h;simp only[conc,gY θ l vs hvs]
   .cases h
 | .iface t v,x,h=>by
   simp only[SV.toLit]at h;split at h
   .rename_i y hy;simp only[a7]at h;subst h;simp only[conc,cW θ v y hy]
   .cases h
 | .ptr _ _,_,h=>by cases h
 | .slice _ _ _ _,_,h=>by cases h
 | .row _ _ _ _ _,_,h=>by cases h
 | .map _,_,h=>by cases h
 | .func _ _ _,_,h=>by cases h
 | .yield _,_,h=>by cases h
 | .num _ _,_,h=>by cases h
 | .opq _,_,h=>by cases h
 | .tail _ _ _ _,_,h=>by cases h
theorem gY(θ:Ren):∀(l:List SV) (vs:List Value),SV.toLitL l=some vs->concL θ l=vs
 |[],vs,h=>by simp only[SV.toLitL,a7]at h;subst h;rfl
 |v::l,vs,h=>by
  simp only[SV.toLitL]at h;split at h
  .rename_i x xs hx hxs;simp only[a7]at h;subst h;simp only[concL,cW θ v x hx,gY θ l xs hxs]
  .cases h
end
theorem du(θ:Ren)(v:SV):(conc θ v).cells=(concL θ v.cells).toArray:=by
 cases v with
 |lit v=>cases v<;>simp[conc,Value.cells,SV.cells,concL,kA]
 |opq i=>simp only[conc,SV.cells,concL];cases θ.opq i<;>simp[oneOf,Value.cells]
 |_=>simp[conc,Value.cells,SV.cells,concL]
theorem eP{K:Nat->Prop}{v:SV}(h:v.ok K):SV.okL K v.cells:=by
 cases v with
 |lit v=>cases v<;>simp[SV.cells,SV.okL,SV.ok,gk]
 |agg l=>exact h
 |_=>exact⟨h,trivial⟩
def frOk(fr:Nat×Nat)(n:Nat):Prop:=fr.1=fr.2\/n<=fr.1
theorem frOk.at{fr:Nat×Nat}{n:Nat}(h:frOk fr n):∀i,i<n->¬(fr.1<=i/\i<fr.2):=λi hi hh=>by
 rcases h with h|h
 .omega
 .omega
def tmpsRep(θ:Ren)(t:T SV)(sz:Nat)(xs:Array Value):Prop:=
 xs.size=sz/\∀i,xs.getD i undef=conc θ (match t.get i with
  |some v=>v
  |none=>.lit undef)
def ORep(θ:Ren):AObj->Obj->Prop
 | .cells l e,o=>∃fr,o=.cells (concL θ l).toArray e fr/\frOk fr l.length
 | .row l e k cv size,o=>∃fr extra,o=.cells (concL θ l++extra).toArray e fr/\frOk fr (l.length+extra.length)/\l.length+extra.length=(k+θ.cap cv)*size
 | .map es c,o=>o=.map (es.map λe=>(⟨conc θ e.1,conc θ e.2.1,e.2.2⟩:MapEntry)).toArray c
 | .strIter s p,o=>o=.stringIter s p
 | .mapIter m since seen st,o=>o=.mapIter (m.map θ.blk) since seen.toArray st
 | .loop l,o=>∃fn xs,tmpsRep θ l.tmps l.sz xs/\o=.loop {state:=l.state,pending:=l.pending,fn:=fn,tmps:=xs,params:=l.params,assign:=l.assign,body:=l.body,defers:=θ.blk l.defers}
 | .deferred b,o=>o=.deferred (if b then some []else none)
 | .text j e cv,o=>∃(l:bn) (fr:Nat×Nat) (ex:List Value),θ.opq j=.string ⟨⟨l⟩⟩/\o=.cells (l.map (λb=>Value.int .u8 b.toNat)++ex).toArray e fr/\frOk fr (l.length+ex.length)/\ex.length=θ.cap cv
 | .bld b j rb cv e,o=>∃(l:bn) (fr:Nat×Nat),θ.opq j=.string ⟨⟨l⟩⟩/\o=.cells #[.pointer (some ⟨θ.blk b,0,none⟩),.slice (some ⟨θ.blk rb,0,none⟩) l.length (l.length+θ.cap cv)] e fr/\frOk fr 2
def AObj.ok(K:Nat->Prop):AObj->Prop
 | .cells l _=>SV.okL K l
 | .row l _ _ cv _=>SV.okL K l/\K cv
 | .map es _=>∀e∈es,e.1.ok K/\e.2.1.ok K
 | .strIter _ _=>True
 | .mapIter m _ _ _=>∀b,m=some b->K b
 | .loop l=>(∀i v,l.tmps.get i=some v->v.ok K)/\K l.defers
 | .deferred _=>True
 | .text j _ cv=>K j/\K cv
 | .bld b j rb cv _=>K b/\K j/\K rb/\K cv
theorem AObj.ok_mono{K K':Nat->Prop}(h:∀i,K i->K' i)(o:AObj)(hk:o.ok K):o.ok K':=by
 cases o with
 |cells l _=>exact fL h l hk
 |row l _ _ cv _=>exact⟨fL h l hk.1,h _ hk.2⟩
 |map es _=>exact λe he=>⟨Ev.ok_mono h _ (hk e he).1,Ev.ok_mono h _ (hk e he).2⟩
 |strIter _ _=>trivial
 |mapIter m _ _ _=>exact λb hb=>h _ (hk b hb)
 |loop l=>exact⟨λi v hv=>Ev.ok_mono h _ (hk.1 i v hv),h _ hk.2⟩
 |deferred _=>trivial
 |text j _ cv=>exact⟨h _ hk.1,h _ hk.2⟩
 |bld b j rb cv _=>exact⟨h _ hk.1,h _ hk.2.1,h _ hk.2.2.1,h _ hk.2.2.2⟩
theorem o3{K:Nat->Prop}{θ θ':Ren}(h:Ext K θ θ'){t:T SV}{sz:Nat}{xs:Array Value}(ht:∀i v,t.get i=some v->v.ok K)(hr:tmpsRep θ t sz xs):tmpsRep θ' t sz xs:=by
 refine⟨hr.1,λi=>?_⟩;rw[hr.2 i];cases e:t.get i with
 |none=>rfl
 |some v=>exact(gT h v (ht i v e)).symm
theorem jW{K:Nat->Prop}{θ θ':Ren}(h:Ext K θ θ'){o:AObj}{ob:Obj}(hk:o.ok K)(hr:ORep θ o ob):ORep θ' o ob:=by
 cases o with
 |cells l e=>obtain⟨fr,rfl,hf⟩:=hr;exact⟨fr,by rw[eV h l hk],hf⟩
 |row l e k cv size=>obtain⟨fr,ex,rfl,hf,hs⟩:=hr;exact⟨fr,ex,by rw[eV h l hk.1],hf,by rw[h.cap cv hk.2];exact hs⟩
 |map es c=>
  simp only[ORep]at hr⊢;subst hr;congr 2;exact List.map_congr_left λe he=>by rw[gT h _ (hk e he).1,gT h _ (hk e he).2]
 |strIter s p=>exact hr
 |mapIter m since seen st=>
  simp only[ORep]at hr⊢;subst hr;cases m with
  |none=>rfl
  |some b=>simp only[af,h.blk b (hk b rfl)]
 |loop l=>
  obtain⟨fn,xs,ht,rfl⟩:=hr;exact⟨fn,xs,o3 h hk.1 ht,by rw[h.blk _ hk.2]⟩
 |deferred b=>exact hr
 |text j e cv=>
  obtain⟨l,fr,ex,h1,h2,h3,h4⟩:=hr;exact⟨l,fr,ex,by rw[h.opq j hk.1];exact h1,h2,h3,by rw[h.cap cv hk.2];exact h4⟩
 |bld b j rb cv e=>
  obtain⟨l,fr,h1,h2,h3⟩:=hr;exact⟨l,fr,by rw[h.opq j hk.2.1];exact h1,by rw[h.blk b hk.1,h.blk rb hk.2.2.1,h.cap cv hk.2.2.2];exact h2,h3⟩
structure Env where
 tab:Glob
 inv:(Nat->Prop)->World->Ren->(Nat->Prop)->Prop
 ext:∀{X:Nat->Prop} {w0:World} {θ θ':Ren} {K K':Nat->Prop},inv X w0 θ K->Ext K θ θ'->(∀i,K i->K' i)->inv X w0 θ' K'
 base:∀{X X':Nat->Prop} {w0 w:World} {θ:Ren} {K:Nat->Prop},inv X w0 θ K->(∀k,X k->X' k)->(∀k,X k->w.heap[k]? =w0.heap[k]?)->w0.heap.size<=w.heap.size->inv X' w θ K
instance:Coe Env Glob:=⟨Env.tab⟩
def Env.plain(Γ:Glob):Env:=⟨Γ,λ_ _ _ _=>True,λ_ _ _=>trivial,λ_ _ _ _=>trivial⟩
structure Rep(Γ:Env)(X:Nat->Prop)(w0:World)(θ:Ren)(K:Nat->Prop)(h:Hp)(w:World):Prop where
 os:w.os=w0.os
 tape:w.tape=w0.tape
 output:w.output=w0.output
 size:w0.heap.size<=w.heap.size
 kept:∀k,X k->w.heap[k]? =w0.heap[k]?
 low:∀k,X k->k<w0.heap.size
 glob:∀g cs,Γ.tab.get g=some cs->X g/\∃e fr,w0.heap[g]? =some (.cells cs.toArray e fr)
 obj:∀b o,h.objs.get b=some o->K b/\¬X (θ.blk b)/\o.ok K/\∃ob,w.heap[θ.blk b]? =some ob/\ORep θ o ob
 inj:∀b b' o o',h.objs.get b=some o->h.objs.get b'=some o'->θ.blk b=θ.blk b'->b=b'
 next:∀i,h.next<=i->¬K i
 inv:Γ.inv X w0 θ K
structure FRep(θ:Ren)(K:Nat->Prop)(fr:Fr)(a:Act):Prop where
 tmps:tmpsRep θ fr.tmps fr.sz a.tmps
 ok:∀i v,fr.tmps.get i=some v->v.ok K
 marks:a.defers=fr.marks.map λb=>({target:=.collected (θ.blk b),args:=#[]}:Deferred)
 marksOk:∀b∈fr.marks,K b
theorem FRep.ext{K K':Nat->Prop}{θ θ':Ren}{fr:Fr}{a:Act}(h:Ext K θ θ')(hk:∀i,K i->K' i)(hf:FRep θ K fr a):FRep θ' K' fr a:=
 ⟨o3 h hf.ok hf.tmps,λi v hv=>ok_mono hk v (hf.ok i v hv),
  hf.marks.trans (List.map_congr_left λb hb=>by rw[h.blk b (hf.marksOk b hb)]),λb hb=>hk b (hf.marksOk b hb)⟩
theorem FRep.ev{K:Nat->Prop}{θ:Ren}{fr:Fr}{a:Act}(hf:FRep θ K fr a)(x:Operand):a.eval x=conc θ (fr.ev x):=by
 cases x with
 |tmp t=>exact hf.tmps.2 t
 |const v=>rfl
 |global g=>rfl
 |func f=>rfl
theorem FRep.evOk{K:Nat->Prop}{θ:Ren}{fr:Fr}{a:Act}(hf:FRep θ K fr a)(x:Operand):(fr.ev x).ok K:=by
 cases x with
 |tmp t=>
  simp only[Fr.ev];cases e:fr.tmps.get t with
  |none=>trivial
  |some v=>exact hf.ok t v e
 |const v=>trivial
 |global g=>trivial
 |func f=>trivial
theorem FRep.put{K:Nat->Prop}{θ:Ren}{fr fr':Fr}{a:Act}(hf:FRep θ K fr a){dst:Option Tmp}{v:SV}(hv:v.ok K)(hp:fr.put dst v=some fr'):FRep θ K fr' (a.put dst (conc θ v)):=by
 cases dst with
 |none=>simp only[Fr.put,a7]at hp;subst hp;exact hf
 |some d=>
  simp only[Fr.put]at hp;cases hd:Nat.blt d fr.sz with
  |false=>rw[hd]at hp;cases hp
  |true=>
   rw[hd]at hp;simp only[bf,a7]at hp;subst hp;have hlt:d<fr.sz:=by simpa[Nat.blt_eq]using hd
   refine⟨⟨by simp[Act.put,hf.tmps.1],λi=>?_⟩,λi u hu=>?_,hf.marks,hf.marksOk⟩
   .simp only[T.get_set,Act.put];by_cases e:i=d
    .subst e;have:i<a.tmps.size:=by rw[hf.tmps.1];exact hlt
     simp[this]
    .rw[bh e];have:=hf.tmps.2 i;simp only[Array.getD_eq_getD_getElem?]at this⊢;rw[Array.getElem?_setIfInBounds_ne (λh=>e h.symm)];exact this
   .simp only[T.get_set]at hu;by_cases e:i=d
    .rw[bi e]at hu;cases hu;exact hv
    .rw[bh e]at hu;exact hf.ok i u hu
section
variable {P:Program}{Γ:Env}{θ:Ren}{w:World}
theorem bM{α:Type}(s:Sem α):∀(a:α),pureRun P s=some a->∀w:World,s.run P w=.ok a w:=by
 induction s with
 |pure a=>intro b h w;simp only[pureRun,a7]at h;subst h;rfl
 |program k ih=>intro b h w;exact ih P b h w
 |mark m k ih=>intro b h w;exact ih b h w
 |_=>intro b h;cases h
theorem be{t:TypeId}{d:TypeDesc}(h:tyU P t=some d)(w:World):(underlying t).run P w=.ok d w:=run_underlying h w
theorem iY{t:TypeId}{i:TypeInfo}(h:P.info? t=some i)(w:World):(typeInfo t).run P w=.ok i w:=by
 simp only[typeInfo,ae,run_program,Result.andThen,h,ah]
theorem cq{t:TypeId}{n:Nat}(h:bI P t=some n)(w:World):(sizeOf t).run P w=.ok n w:=by
 simp only[bI,aa]at h;obtain⟨i,hi,rfl⟩:=h;simp only[sizeOf,ae,iY hi w,Result.andThen,ah]
theorem dj{t:TypeId}{z:Value}(h:dB P t=some z)(w:World):(zeroValue t).run P w=.ok z w:=by
 simp only[dB,aJ]at h;obtain⟨i,hi,hz⟩:=h;simp only[zeroValue,ae,iY hi w,Result.andThen,hz,ah]
theorem pL{t:TypeId}{b:Bool}(h:e8 P t=some b)(w:World):(isAgg t).run P w=.ok b w:=by
 unfold e8 at h;unfold isAgg;cases hu:P.underlying t with
 |none=>rw[hu]at h;cases h
 |some d=>
  rw[hu]at h;simp only[ae,be hu w,Result.andThen];cases d<;>simp only[a7]at h<;>subst h<;>rfl
theorem dW(b off i:Nat):(⟨b,off,none⟩:Addr).add i=⟨b,off+i,none⟩:=by
 unfold Addr.add;split
 .rename_i h;subst h;rfl
 .rfl
def FactW(θ:Ren)(w:World):Fact->Prop
 | .cells b off vs=>∀i v,vs[i]? =some v->w.cell? ⟨θ.blk b,off+i,none⟩=some (conc θ v)
 | .obj b o=>∃ob,w.heap[θ.blk b]? =some ob/\ORep θ o ob
def fI(h:Hp):Fact->Prop
 | .cells b off vs=>(knownCells h b).bind (cut · off vs.length)=some vs
 | .obj b o=>h.objs.get b=some o
def GlobW(Γ:Glob)(w:World):Prop:=∀g cs,Γ.get g=some cs->∃e fr,w.heap[g]? =some (.cells cs.toArray e fr)
theorem Rep.globW{X:Nat->Prop}{w0:World}{K:Nat->Prop}{h:Hp}(hr:Rep Γ X w0 θ K h w):GlobW Γ w:=λg cs hg=>by
 obtain⟨hx,e,fr,hw⟩:=hr.glob g cs hg;exact⟨e,fr,(hr.kept g hx).trans hw⟩
theorem dg{l vs:List SV}{off n:Nat}(h:cut l off n=some vs):vs=(l.drop off).take n/\vs.length=n:=by
 unfold cut at h;cases e:Nat.beq ((l.drop off).take n).length n with
 |false=>simp only[e,bg]at h;cases h
 |true=>
  simp only[e,bf,a7]at h;subst h;exact⟨rfl,eq_of_beq e⟩
theorem BS{l vs:List SV}{off n:Nat}(h:cut l off n=some vs){i:Nat}{v:SV}(hv:vs[i]? =some v):l[off+i]? =some v:=by
 obtain⟨rfl,hl⟩:=dg h;have hi:i<n:=by
  have:=(List.getElem?_eq_some_iff.1 hv).1;omega
 rw[List.getElem?_take_of_lt hi,List.getElem?_drop]at hv;exact hv
theorem fw{l vs:List SV}{off n:Nat}(h:cut l off n=some vs){v:SV}(hv:v∈vs):v∈l:=by
 obtain⟨rfl,_⟩:=dg h;exact List.mem_of_mem_drop (List.mem_of_mem_take hv)
theorem ORep.cell{o:AObj}{ob:Obj}{l:List SV}(hr:ORep θ o ob)(hl:(∃e,o=.cells l e)\/(∃e k cv s,o=.row l e k cv s)){b:Nat}(hb:w.heap[b]? =some ob){i:Nat}{v:SV}(hv:l[i]? =some v):
 w.cell? ⟨b,i,none⟩=some (conc θ v)/\w.frozen? ⟨b,i,none⟩=false:=by
 have hi:=(List.getElem?_eq_some_iff.1 hv).1;rcases hl with⟨e,rfl⟩|⟨e,k,cv,s,rfl⟩
 .obtain⟨fr,rfl,hf⟩:=hr;refine⟨?_,?_⟩
  .simp only[World.cell?,hb,Option.isSome_none,aA,if_false];rw[aP,ez,hv];rfl
  .simp only[World.frozen?,hb];have:=hf.at i hi
   simpa using this
 .obtain⟨fr,ex,rfl,hf,_⟩:=hr;refine⟨?_,?_⟩
  .simp only[World.cell?,hb,Option.isSome_none,aA,if_false];rw[aP,aU (by rw[bH];exact hi),ez,hv];rfl
  .simp only[World.frozen?,hb];have:=hf.at i bj
   simpa using this
theorem nW{h:Hp}{b:Nat}{l:List SV}(hk:knownCells h b=some l):∃o,h.objs.get b=some o/\((∃e,o=.cells l e)\/(∃e k cv s,o=.row l e k cv s)):=by
 unfold knownCells at hk;cases e:h.objs.get b with
 |none=>rw[e]at hk;cases hk
 |some o=>
  rw[e]at hk;cases o<;>simp only[a7]at hk<;>first|(subst hk;exact⟨_,rfl,.inl ⟨_,rfl⟩⟩)|(subst hk;exact⟨_,rfl,.inr ⟨_,_,_,_,rfl⟩⟩)|cases hk
theorem Rep.fact{X:Nat->Prop}{w0:World}{K:Nat->Prop}{h:Hp}(hr:Rep Γ X w0 θ K h w){f:Fact}(hf:fI h f):FactW θ w f:=by
 cases f with
 |cells b off vs=>
  intro i v hv;simp only[fI,aJ]at hf;obtain⟨l,hl,hc⟩:=hf;obtain⟨o,ho,hcase⟩:=nW hl;obtain⟨_,_,_,ob,hw,hO⟩:=hr.obj b o ho;exact(hO.cell hcase hw (BS hc hv)).1
 |obj b o=>
  obtain⟨_,_,_,ob,hw,hO⟩:=hr.obj b o hf;exact⟨ob,hw,hO⟩
theorem eR{h:Hp}{p:SV}{n:Nat}{vs:List SV}{fs:List Fact}(hq:bF Γ h p n=some (vs,fs))(hg:GlobW Γ w)(hf:∀f∈fs,FactW θ w f):
 ∃a:Addr,conc θ p=.pointer (some a)/\vs.length=n/\∀(i:Nat) (v:SV),vs[i]? =some v->w.cell? (a.add i)=some (conc θ v):=by
 unfold bF at hq;split at hq
 .rename_i b off;split at hq
  .rename_i us hus;simp only[a7,ap]at hq;obtain⟨rfl,rfl⟩:=hq;simp only[aJ]at hus;obtain⟨l,_,hc⟩:=hus;refine⟨⟨θ.blk b,off,none⟩,rfl,(dg hc).2,λi v hv=>?_⟩;rw[dW];exact hf _ (List.mem_singleton.2 rfl) i v hv
  .cases hq
 .rename_i g off;split at hq
  .rename_i us hus;simp only[a7,ap]at hq;obtain⟨rfl,rfl⟩:=hq;simp only[aJ]at hus;obtain⟨cs,hcs,hc⟩:=hus;refine⟨⟨g,off,none⟩,rfl,(dg hc).2,λi v hv=>?_⟩;rw[dW];have h1:=BS hc hv;obtain⟨e,fr,hw⟩:=hg g cs hcs;rw[aV,aa]at h1;obtain⟨x,hx,rfl⟩:=h1;simp only[World.cell?,hw,Option.isSome_none,aA,if_false,aP,hx];rfl
  .cases hq
 .cases hq
theorem dS{h:Hp}{p:SV}{n:Nat}{vs:List SV}{fs:List Fact}(hq:bF Γ h p n=some (vs,fs))(hg:GlobW Γ w)(hf:∀f∈fs,FactW θ w f):
 ∃a:Addr,conc θ p=.pointer (some a)/\(loadCells a n).run P w=.ok (concL θ vs).toArray w:=by
 obtain⟨a,ha,hl,hc⟩:=eR hq hg hf;refine⟨a,ha,?_⟩;have:=run_loadCells_list (P:=P) w a (concL θ vs) (λj v hv=>by
  rw[ez,aa]at hv;obtain⟨x,hx,rfl⟩:=hv;exact hc j x hx)
 rw[bH,hl]at this;exact this
theorem fx{K:Nat->Prop}{h:Hp}{p:SV}{n:Nat}{vs:List SV}{fs:List Fact}(hq:bF Γ h p n=some (vs,fs))(hh:∀b o,h.objs.get b=some o->o.ok K):SV.okL K vs:=by
 unfold bF at hq;split at hq
 .split at hq
  .rename_i us hus;simp only[a7,ap]at hq;obtain⟨rfl,rfl⟩:=hq;simp only[aJ]at hus;obtain⟨l,hl,hc⟩:=hus;obtain⟨o,ho,hcase⟩:=nW hl;have:=hh _ o ho;rcases hcase with⟨e,rfl⟩|⟨e,k,cv,s,rfl⟩
   .exact fP this λv hv=>fw hc hv
   .exact fP this.1 λv hv=>fw hc hv
  .cases hq
 .split at hq
  .rename_i us hus;simp only[a7,ap]at hq;obtain⟨rfl,rfl⟩:=hq;simp only[aJ]at hus;obtain⟨cs,_,hc⟩:=hus;exact fP (gk K cs) λv hv=>fw hc hv
  .cases hq
 .cases hq
theorem cI{h:Hp}{p:SV}{n:Nat}{vs:List SV}{fs:List Fact}(hq:bF Γ h p n=some (vs,fs)):∀f∈fs,fI h f:=by
 unfold bF at hq;split at hq
 .split at hq
  .rename_i us hus;simp only[a7,ap]at hq;obtain⟨rfl,rfl⟩:=hq;intro f hf;rw[List.mem_singleton.1 hf];have hl:us.length=n:=by
    simp only[aJ]at hus;obtain⟨l,_,hc⟩:=hus;exact(dg hc).2
   simp only[fI,hl];exact hus
  .cases hq
 .split at hq
  .simp only[a7,ap]at hq;obtain⟨_,rfl⟩:=hq;intro f hf;cases hf
  .cases hq
 .cases hq
theorem l5{h:Hp}{t:TypeId}{p v:SV}{fs:List Fact}(hq:dk P Γ h t p=some (v,fs))(hg:GlobW Γ w)(hf:∀f∈fs,FactW θ w f):
 ∃a:Addr,conc θ p=.pointer (some a)/\(loadVar t a).run P w=.ok (conc θ v) w:=by
 unfold dk at hq;split at hq
 .rename_i hagg;split at hq
  .rename_i n hn;split at hq
   .rename_i vs gs hr;simp only[a7,ap]at hq;obtain⟨rfl,rfl⟩:=hq;obtain⟨a,ha,hl⟩:=dS (P:=P) hr hg hf;refine⟨a,ha,?_⟩;simp only[loadVar,ae,pL hagg w,Result.andThen,if_true,cq hn w,hl,ah];rfl
   .cases hq
  .cases hq
 .rename_i hagg;split at hq
  .rename_i u gs hr;simp only[a7,ap]at hq;obtain⟨rfl,rfl⟩:=hq;obtain⟨a,ha,_,hc⟩:=eR hr hg hf;refine⟨a,ha,?_⟩;have h0:w.cell? a=some (conc θ u):=by
    have:=hc 0 u rfl
    rwa [show a.add 0=a by simp[Addr.add]]at this
   simp only[loadVar,ae,pL hagg w,Result.andThen,aA,if_false,run_load,h0]
  .cases hq
 .cases hq
theorem wH{h:Hp}{t:TypeId}{p v:SV}{fs:List Fact}(hq:dk P Γ h t p=some (v,fs))(hg:GlobW Γ w)(hf:∀f∈fs,FactW θ w f):
 (Instr.loadAt t (conc θ p)).run P w=.ok (conc θ v) w:=by
 obtain⟨a,ha,hl⟩:=l5 hq hg hf;rw[ha];simp only[Instr.loadAt,Instr.sureAddr,ae,ah,Result.andThen,hl]
theorem xr{K:Nat->Prop}{h:Hp}{t:TypeId}{p v:SV}{fs:List Fact}(hq:dk P Γ h t p=some (v,fs))(hh:∀b o,h.objs.get b=some o->o.ok K):v.ok K:=by
 unfold dk at hq;split at hq
 .split at hq
  .split at hq
   .rename_i hr;simp only[a7,ap]at hq;obtain⟨rfl,rfl⟩:=hq;exact fx hr hh
   .cases hq
  .cases hq
 .split at hq
  .rename_i hr;simp only[a7,ap]at hq;obtain⟨rfl,rfl⟩:=hq;exact(fx hr hh).1
  .cases hq
 .cases hq
theorem o5{h:Hp}{t:TypeId}{p v:SV}{fs:List Fact}(hq:dk P Γ h t p=some (v,fs)):∀f∈fs,fI h f:=by
 unfold dk at hq;split at hq
 .split at hq
  .split at hq
   .rename_i hr;simp only[a7,ap]at hq;obtain⟨rfl,rfl⟩:=hq;exact cI hr
   .cases hq
  .cases hq
 .split at hq
  .rename_i hr;simp only[a7,ap]at hq;obtain⟨rfl,rfl⟩:=hq;exact cI hr
  .cases hq
 .cases hq
theorem pz(l:List SV)(off n:Nat):concL θ ((l.drop off).take n)=((concL θ l).drop off).take n:=by
 simp only[cV,List.map_take,List.map_drop]
theorem kL{t:TypeId}{l:List SV}{off:Nat}{v:SV}(hq:nF P t l off=some v):(part t (concL θ l).toArray off).run P w=.ok (conc θ v) w:=by
 unfold nF at hq;split at hq
 .rename_i hagg;split at hq
  .rename_i n hn;rw[aa]at hq;obtain⟨vs,hc,rfl⟩:=hq;simp only[part,ae,pL hagg w,Result.andThen,if_true,cq hn w,ah];obtain⟨rfl,_⟩:=dg hc;simp only[conc,pz];congr 2;rw[<-aN];simp[List.extract_eq_take_drop]
  .cases hq
 .rename_i hagg;simp only[part,ae,pL hagg w,Result.andThen,aA,if_false,aP,ez,hq,af,ah]
 .cases hq
theorem k7{K:Nat->Prop}{t:TypeId}{l:List SV}{off:Nat}{v:SV}(hq:nF P t l off=some v)(hl:SV.okL K l):v.ok K:=by
 unfold nF at hq;split at hq
 .split at hq
  .rw[aa]at hq;obtain⟨vs,hc,rfl⟩:=hq;exact fP hl λv hv=>fw hc hv
  .cases hq
 .exact(dQ _ _).1 hl v (aW hq)
 .cases hq
theorem pb{p q:SV}{n:Nat}(hq:kJ p n=some q):∃a:Addr,conc θ p=.pointer (some a)/\conc θ q=.pointer (some (a.add n)):=by
 unfold kJ at hq;split at hq
 .rename_i b off;simp only[a7]at hq;subst hq;exact⟨⟨θ.blk b,off,none⟩,rfl,by rw[dW];rfl⟩
 .rename_i g off;simp only[a7]at hq;subst hq;exact⟨⟨g,off,none⟩,rfl,by rw[dW];rfl⟩
 .cases hq
theorem xF{K:Nat->Prop}{p q:SV}{n:Nat}(hq:kJ p n=some q)(hp:p.ok K):q.ok K:=by
 unfold kJ at hq;split at hq
 .simp only[a7]at hq;subst hq;exact hp
 .simp only[a7]at hq;subst hq;trivial
 .cases hq
theorem ow{s:TypeId}{p q:SV}{i:Nat}(hq:dv P s p i=some q):(Instr.fieldAt s (conc θ p) i).run P w=.ok (conc θ q) w:=by
 unfold dv at hq;split at hq
 .rename_i fields hu;split at hq
  .rename_i f hf;split at hq
   .rename_i n hn;obtain⟨a,ha,hb⟩:=pb (θ:=θ) hq;rw[ha,hb];simp only[Instr.fieldAt,ae,be hu w,Result.andThen,hf,Instr.sureAddr,ah,fieldPlace,cq hn w,Nat.succ_ne_zero,if_false]
   .cases hq
  .cases hq
 .cases hq
theorem lY{K:Nat->Prop}{s:TypeId}{p q:SV}{i:Nat}(hq:dv P s p i=some q)(hp:p.ok K):q.ok K:=by
 unfold dv at hq;split at hq
 .split at hq
  .split at hq
   .exact xF hq hp
   .cases hq
  .cases hq
 .cases hq
theorem ja{v:SV}{len k:Nat}(h:ou v len=some k):∃j,conc θ v=.int j (k:Int)/\k<len:=by
 unfold ou at h;split at h
 .rename_i j i;cases e:Nat.blt i len with
  |false=>rw[e]at h;cases h
  |true=>
   rw[e]at h;simp only[bf,a7]at h;subst h;exact⟨j,rfl,ca e⟩
 .cases h
theorem oR{t:TypeId}{x i q:SV}(hq:bT P t x i=some q):(Instr.indexAt t (conc θ x) (conc θ i)).run P w=.ok (conc θ q) w:=by
 unfold bT at hq;split at hq
 .rename_i len e hu;split at hq
  .rename_i s k hs hk;obtain⟨j,hj,hlt⟩:=ja (θ:=θ) hk;obtain⟨a,ha,hb⟩:=pb (θ:=θ) hq;rw[hj,ha,hb];have h0:(0:Int)<=(k:Int)/\(k:Int)<(len:Int):=by omega
   simp only[Instr.indexAt,asIntOf,ae,ah,Result.andThen,be hu w,Instr.sureAddr,h0,and_self,if_true,cq hs w,Int.toNat_natCast]
  .cases hq
 .rename_i e b off len cap hu;split at hq
  .rename_i s k hs hk;obtain⟨j,hj,hlt⟩:=ja (θ:=θ) hk;simp only[a7]at hq;subst hq;rw[hj];have h0:(0:Int)<=(k:Int)/\(k:Int)<(len:Int):=by omega
   simp only[Instr.indexAt,asIntOf,conc,ae,ah,Result.andThen,be hu w,h0,and_self,if_true,cq hs w,Int.toNat_natCast,dW]
  .cases hq
 .rename_i e b off len k cv hu;split at hq
  .rename_i s k hs hk;obtain⟨j,hj,hlt⟩:=ja (θ:=θ) hk;simp only[a7]at hq;subst hq;rw[hj];have h0:(0:Int)<=(k:Int)/\(k:Int)<(len:Int):=by omega
   simp only[Instr.indexAt,asIntOf,conc,ae,ah,Result.andThen,be hu w,h0,and_self,if_true,cq hs w,Int.toNat_natCast,dW]
  .cases hq
 .rename_i e b off len c hu;split at hq
  .rename_i s k hs hk;obtain⟨j,hj,hlt⟩:=ja (θ:=θ) hk;simp only[a7]at hq;subst hq;rw[hj];have h0:(0:Int)<=(k:Int)/\(k:Int)<(len:Int):=by omega
   simp only[Instr.indexAt,asIntOf,conc,ae,ah,Result.andThen,be hu w,h0,and_self,if_true,cq hs w,Int.toNat_natCast,dW]
  .cases hq
 .cases hq
theorem lZ{K:Nat->Prop}{t:TypeId}{x i q:SV}(hq:bT P t x i=some q)(hx:x.ok K):q.ok K:=by
 unfold bT at hq;split at hq
 .split at hq
  .exact xF hq hx
  .cases hq
 .split at hq
  .simp only[a7]at hq;subst hq;exact hx
  .cases hq
 .split at hq
  .simp only[a7]at hq;subst hq;exact hx.1
  .cases hq
 .split at hq
  .simp only[a7]at hq;subst hq;exact trivial
  .cases hq
 .cases hq
end
section
variable {P:Program}{Γ:Env}{θ:Ren}{w:World}
theorem vg{t:TypeId}{x i q:SV}(hq:kD P t x i=some q):(Instr.index t (conc θ x) (conc θ i)).run P w=.ok (conc θ q) w:=by
 unfold kD at hq;split at hq
 .rename_i len e l hu;split at hq
  .rename_i s k hs hk;obtain⟨j,hj,hlt⟩:=ja (θ:=θ) hk;rw[hj];have h0:(0:Int)<=(k:Int)/\(k:Int)<(len:Int):=by omega
   simp only[Instr.index,asIntOf,conc,ae,ah,Result.andThen,be hu w,h0,and_self,if_true,cq hs w,Int.toNat_natCast];exact kL hq
  .cases hq
 .split at hq
  .rename_i a b ha hb;rw[aa]at hq;obtain⟨v,hv,rfl⟩:=hq;rw[cW θ _ _ ha,cW θ _ _ hb];exact bM _ v hv w
  .cases hq
theorem tD{K:Nat->Prop}{t:TypeId}{x i q:SV}(hq:kD P t x i=some q)(hx:x.ok K):q.ok K:=by
 unfold kD at hq;split at hq
 .split at hq
  .exact k7 hq hx
  .cases hq
 .split at hq
  .rw[aa]at hq;obtain⟨v,hv,rfl⟩:=hq;trivial
  .cases hq
theorem rA{l vs r:List SV}{off:Nat}(h:cH l off vs=some r):(off+vs.length<=l.length/\r=l.take off++vs++l.drop (off+vs.length))/\vs.all SV.one=true:=by
 unfold cH at h;cases e:Nat.ble (off+vs.length) l.length&&vs.all SV.one with
 |false=>rw[e]at h;cases h
 |true=>
  rw[e]at h;simp only[bf,a7]at h;rw[a8]at e;exact⟨⟨dy e.1,h.symm⟩,e.2⟩
theorem jr{l vs r:List SV}{off:Nat}(h:cH l off vs=some r):off+vs.length<=l.length/\r=l.take off++vs++l.drop (off+vs.length):=(rA h).1
theorem sQ{l vs r:List SV}{off:Nat}(h:cH l off vs=some r):r.length=l.length:=by
 obtain⟨hl,rfl⟩:=jr h;simp only[ac,aL,aR];omega
theorem n5{K:Nat->Prop}{l vs r:List SV}{off:Nat}(h:cH l off vs=some r)(hl:SV.okL K l)(hv:SV.okL K vs):SV.okL K r:=by
 obtain⟨_,rfl⟩:=jr h;exact dn (dn (fP hl λv hv=>List.mem_of_mem_take hv) hv) (fP hl λv hv=>List.mem_of_mem_drop hv)
theorem kn{l vs r:List SV}{off:Nat}(h:cH l off vs=some r):concL θ r=(concL θ l).take off++concL θ vs++(concL θ l).drop (off+vs.length):=by
 obtain⟨_,rfl⟩:=jr h;simp only[cV,aH,List.map_take,List.map_drop]
theorem Af(vs:List Value):∀(k off:Nat) (L:List Value),off+k+vs.length<=L.length->
 ((vs.zipIdx k).foldl (λ(cs:Array Value) (p:Value×Nat)=>cs.setIfInBounds (off+p.2) p.1) L.toArray)=(L.take (off+k)++vs++L.drop (off+k+vs.length)).toArray:=by
 induction vs with
 |nil=>intro k off L h;simp
 |cons a vs ih=>
  intro k off L h;simp only[List.zipIdx_cons,List.foldl_cons,au]at h⊢;have hlt:off+k<L.length:=by omega
  rw[List.setIfInBounds_toArray,show off+k=off+k by rfl,ih (k+1) off (L.set (off+k) a) (by simp only[List.length_set];omega)];congr 1;rw[show off+(k+1)=(off+k)+1 by omega,List.take_succ_eq_append_getElem (by simpa using hlt),List.take_set_of_le (av _),List.getElem_set_self];rw[List.drop_set_of_lt bj,show off+k+1+vs.length=off+k+(vs.length+1) by omega];simp
theorem ji{place:Nat->Option (Nat×Nat)}(parts:List (Nat×SV)):∀{l r:List SV},kG place l parts=some r->
 Instr.fill place (concL θ l).toArray (parts.map λp=>(p.1,conc θ p.2))=some (concL θ r).toArray:=by
 induction parts with
 |nil=>intro l r h;simp only[kG,a7]at h;subst h;rfl
 |cons p parts ih=>
  intro l r h;obtain⟨i,v⟩:=p;simp only[kG]at h;simp only[ax,Instr.fill];split at h
  .cases h
  .rename_i off size hp;simp only[hp];cases hb:Nat.beq v.cells.length size with
   |false=>rw[hb]at h;cases h
   |true=>
    rw[hb]at h;simp only[bf]at h;split at h
    .rename_i l' hs;have hsz:(conc θ v).cells.size=size:=by rw[du];simp[eq_of_beq hb]
     have hle:=(jr hs).1;have hle2:¬(off+(conc θ v).cells.size>(concL θ l).toArray.size):=by rw[hsz];simp[<-eq_of_beq hb];exact hle
     have hcond:(decide ((conc θ v).cells.size≠size)||decide (off+(conc θ v).cells.size>(concL θ l).toArray.size))=false:=by
      simp only[Bool.or_eq_false_iff,decide_eq_false_iff_not,ne_eq,Decidable.not_not];exact⟨hsz,hle2⟩
     rw[hcond,bh (by simp)];have hfold:(conc θ v).cells.zipIdx.foldl (λ(cs:Array Value) (p:Value×Nat)=>cs.setIfInBounds (off+p.2) p.1) (concL θ l).toArray=(concL θ l').toArray:=by
      rw[du,<-Array.foldl_toList,Array.toList_zipIdx];have:=Af (concL θ v.cells) 0 off (concL θ l) (by simp only[bH];omega);simp only[Nat.add_zero,bH]at this;rw[this,kn hs]
     rw[hfold];exact ih h
    .cases h
theorem nw{K:Nat->Prop}{place:Nat->Option (Nat×Nat)}(parts:List (Nat×SV)):∀{l r:List SV},kG place l parts=some r->SV.okL K l->(∀p∈parts,p.2.ok K)->SV.okL K r:=by
 induction parts with
 |nil=>intro l r h hl _;simp only[kG,a7]at h;subst h;exact hl
 |cons p parts ih=>
  intro l r h hl hp;obtain⟨i,v⟩:=p;simp only[kG]at h;split at h
  .cases h
  .cases hb:Nat.beq v.cells.length _ with
   |false=>rw[hb]at h;cases h
   |true=>
    rw[hb]at h;simp only[bf]at h;split at h
    .rename_i l' hs;exact ih h (n5 hs hl (eP (hp (i,v) (ak ..)))) λq hq=>hp q (am _ hq)
    .cases h
theorem zC(fs:List Field):∀{r:List (Nat×Nat)},n7 P fs=some r->∀w:World,(fs.mapM λf=>do pure (f.offset,<-sizeOf f.type):Sem (List (Nat×Nat))).run P w=.ok r w:=by
 induction fs with
 |nil=>intro r h w;simp only[n7,a7]at h;subst h;rfl
 |cons f fs ih=>
  intro r h w;simp only[n7]at h;split at h
  .rename_i s r' hs hr;simp only[a7]at h;subst h;simp only[List.mapM_cons,ae,cq hs w,Result.andThen,ah,ih hr w]
  .cases h
theorem u4{t:TypeId}{parts:List (Nat×SV)}{q:SV}(hq:mI P t parts=some q):
 (Instr.build t (parts.map λp=>(p.1,conc θ p.2)).toArray).run P w=.ok (conc θ q) w:=by
 unfold mI at hq;split at hq
 .rename_i z fields hz hu;split at hq
  .rename_i places hp;rw[aa]at hq;obtain⟨r,hr,rfl⟩:=hq;have h1:=ji (θ:=θ) parts hr;have hc:(concL θ (SV.cells (.lit z))).toArray=z.cells:=(du θ (.lit z)).symm;rw[hc]at h1;have hm:=zC fields.toList hp w;have hm':(fields.mapM λf=>do pure (f.offset,<-sizeOf f.type):Sem (Array (Nat×Nat))).run P w=.ok places.toArray w:=by
    rw[Array.mapM_eq_mapM_toList];simp only[Sem.run_map,hm,Result.andThen]
   have hfun:(λi:Nat=>places.toArray[i]?)=(λi:Nat=>places[i]?):=by funext i;simp
   simp only[Instr.build,ae,dj hz w,Result.andThen,be hu w,hm',hfun,h1,ah];rfl
  .cases hq
 .rename_i z n e hz hu;split at hq
  .rename_i size hs;rw[aa]at hq;obtain⟨r,hr,rfl⟩:=hq;have h1:=ji (θ:=θ) parts hr;have hc:(concL θ (SV.cells (.lit z))).toArray=z.cells:=(du θ (.lit z)).symm;rw[hc]at h1;simp only[Instr.build,ae,dj hz w,Result.andThen,be hu w,cq hs w,h1,ah];rfl
  .cases hq
 .cases hq
theorem to{K:Nat->Prop}{t:TypeId}{parts:List (Nat×SV)}{q:SV}(hq:mI P t parts=some q)(hp:∀p∈parts,p.2.ok K):q.ok K:=by
 unfold mI at hq;split at hq
 .split at hq
  .rw[aa]at hq;obtain⟨r,hr,rfl⟩:=hq;exact nw parts hr (eP (v:=.lit _) trivial) hp
  .cases hq
 .split at hq
  .rw[aa]at hq;obtain⟨r,hr,rfl⟩:=hq;exact nw parts hr (eP (v:=.lit _) trivial) hp
  .cases hq
 .cases hq
theorem o0:∃d,Op.maxDepth=d+1:=⟨9999,rfl⟩
theorem ls{t:TypeId}{x y:SV}{b:Bool}(hq:eZ P t x y=some b):(Op.equal t (conc θ x) (conc θ y)).run P w=.ok b w:=by
 unfold eZ at hq;obtain⟨d,hd⟩:=o0;rw[Op.equal,hd];split at hq
 all_goals first
  |(rename_i hu;simp only[a7]at hq;subst hq;simp only[Op.equalIn,conc,ae,be hu w,Result.andThen,ah,Option.isNone];done)
  |skip
 .rename_i e b0 o b1 o1 hu;split at hq
  .rename_i n hn;cases hb:Nat.beq b0 b1 with
   |false=>rw[hb]at hq;cases hq
   |true=>
    rw[hb]at hq;simp only[bf,a7]at hq;have:=eq_of_beq hb;subst this;subst hq;simp only[Op.equalIn,conc,ae,be hu w,Result.andThen,cq hn w,ne_eq,Nat.succ_ne_zero,not_false_eq_true,if_true,sameAddr,bb,ah];congr 1;cases hoo:Nat.beq o o1 with
    |true=>have:=eq_of_beq hoo;subst this;simp
    |false=>simp[ej hoo]
  .cases hq
 .cases hq
theorem yl{op:BinOp}{t:TypeId}{xo yo:Operand}{a b:Value}(h1:¬(a=.nilIface/\b=.nilIface))(h2:∀c d,¬(a=.agg c/\b=.agg d)):(eqGuard op t xo yo a b).run P w=.ok () w:=by
 unfold eqGuard;cases op<;>first
  |rfl
  |(cases a<;>first
   |rfl
   |(cases b<;>first|rfl|exact absurd ⟨rfl,rfl⟩ h1|exact absurd ⟨rfl,rfl⟩ (h2 _ _)))
theorem AQ{op:BinOp}{t:TypeId}{xo yo:Operand}{x y q:SV}(hq:binQ P op t xo yo x y=some q):
 (do eqGuard op t xo yo (conc θ x) (conc θ y);binOp op t (conc θ x) (conc θ y):Sem Value).run P w=.ok (conc θ q) w:=by
 unfold binQ at hq;split at hq
 .rename_i a b ha hb;rw[aa]at hq;obtain⟨v,hv,rfl⟩:=hq;rw[cW θ _ _ ha,cW θ _ _ hb];exact bM _ v hv w
 .have key:∀r,eZ P t x y=some r->(eqGuard op t xo yo (conc θ x) (conc θ y)).run P w=.ok () w/\
   (∀k n,conc θ x≠.int k n)/\(∀k n,conc θ x≠.float k n)/\(∀k n m,conc θ x≠.complex k n m)/\(∀s,conc θ x≠.string s):=by
   intro r hr;unfold eZ at hr;split at hr
   all_goals first
    |(cases hr;done)
    |(refine⟨yl (by simp[conc]) (by simp[conc]),?_,?_,?_,?_⟩<;>simp[conc])
  split at hq
  .rw[aa]at hq;obtain⟨r,hr,rfl⟩:=hq;obtain⟨hg,n1,n2,n3,n4⟩:=key r hr;have he:=ls (θ:=θ) (w:=w) hr;simp only[ae,hg,Result.andThen];generalize conc θ x=cx at*;generalize conc θ y=cy at*;unfold binOp;cases cx<;>first
    |(exact absurd rfl (n1 _ _))
    |(exact absurd rfl (n2 _ _))
    |(exact absurd rfl (n3 _ _ _))
    |(exact absurd rfl (n4 _))
    |(simp only[ae,he,Result.andThen,ah];rfl)
  .rw[aa]at hq;obtain⟨r,hr,rfl⟩:=hq;obtain⟨hg,n1,n2,n3,n4⟩:=key r hr;have he:=ls (θ:=θ) (w:=w) hr;simp only[ae,hg,Result.andThen];generalize conc θ x=cx at*;generalize conc θ y=cy at*;unfold binOp;cases cx<;>first
    |(exact absurd rfl (n1 _ _))
    |(exact absurd rfl (n2 _ _))
    |(exact absurd rfl (n3 _ _ _))
    |(exact absurd rfl (n4 _))
    |(simp only[ae,he,Result.andThen,ah];rfl)
  .cases hq
theorem BI{K:Nat->Prop}{op:BinOp}{t:TypeId}{xo yo:Operand}{x y q:SV}(hq:binQ P op t xo yo x y=some q):q.ok K:=by
 unfold binQ at hq;split at hq
 .rw[aa]at hq;obtain⟨v,_,rfl⟩:=hq;trivial
 .split at hq
  .rw[aa]at hq;obtain⟨v,_,rfl⟩:=hq;trivial
  .rw[aa]at hq;obtain⟨v,_,rfl⟩:=hq;trivial
  .cases hq
end
section
variable {P:Program}{Γ:Env}{θ:Ren}{w:World}
theorem jj{v:SV}{d most r:Nat}(h:dV (some v) d most=some r):∃k,v=.lit (.int k (r:Int))/\r<=most:=by
 unfold dV at h;split at h
 .rename_i he;cases he
 .rename_i k i he;cases he;cases e:Nat.ble i most with
  |false=>rw[e]at h;cases h
  |true=>
   rw[e]at h;simp only[bf,a7]at h;subst h;exact⟨k,rfl,dy e⟩
 .cases h
theorem eF{k:IntKind}{i y:Nat}(code:BoundsCode)(h:i<=y):(Instr.sliceBound (.int k (i:Int)) y code).run P w=.ok i w:=by
 have h0:(0:Int)<=(i:Int)/\(i:Int)<=(y:Int):=by omega
 simp only[Instr.sliceBound,asIntOf,ae,ah,Result.andThen,h0,and_self,if_true,Int.toNat_natCast]
theorem nO{lo:Option SV}{h l:Nat}(h2:dV lo 0 h=some l):(lo=none/\l=0)\/∃k,lo=some (.lit (.int k (l:Int)))/\l<=h:=by
 cases lo with
 |none=>simp only[dV,a7]at h2;exact .inl ⟨rfl,h2.symm⟩
 |some v=>obtain⟨k,rfl,hle⟩:=jj h2;exact .inr ⟨k,rfl,hle⟩
theorem kf{lo hi:Option SV}{len cap most h l:Nat}(isS:Bool)(h1:dV hi len most=some h)(hm:most<=cap)(h2:dV lo 0 h=some l):
 (Instr.sliceBounds isS len cap (lo.map (conc θ)) (hi.map (conc θ)) none).run P w=.ok (l,h,cap) w:=by
 cases hi with
 |none=>
  simp only[dV,a7]at h1;subst h1;rcases nO h2 with⟨rfl,rfl⟩|⟨k,rfl,hle⟩
  .simp only[Instr.sliceBounds,Option.map_none,ae,ah,Result.andThen]
  .simp only[Instr.sliceBounds,Option.map_none,af,conc,ae,ah,Result.andThen,Option.isSome_none,aA,if_false,eF _ hle]
 |some v=>
  obtain⟨k,rfl,hle⟩:=jj h1;have e1:=eF (P:=P) (w:=w) (k:=k) (if isS then .sliceAcap else .sliceAlen) (Nat.le_trans hle hm);rcases nO h2 with⟨rfl,rfl⟩|⟨k',rfl,hle'⟩
  .simp only[Instr.sliceBounds,Option.map_none,af,conc,ae,ah,Result.andThen,e1]
  .simp only[Instr.sliceBounds,af,conc,ae,ah,Result.andThen,e1,Option.isSome_none,aA,if_false,eF _ hle']
theorem qC{lo:Option SV}{m hv:SV}{len cap most mm h l d:Nat}(isS:Bool)(h0:dV (some m) d most=some mm)(hm:most<=cap)(h1:dV (some hv) d mm=some h)(h2:dV lo 0 h=some l):
 (Instr.sliceBounds isS len cap (lo.map (conc θ)) (some (conc θ hv)) (some (conc θ m))).run P w=.ok (l,h,mm) w:=by
 obtain⟨k,rfl,hle⟩:=jj h0;obtain⟨k',rfl,hle'⟩:=jj h1;have e0:=eF (P:=P) (w:=w) (k:=k) (if isS then .slice3Acap else .slice3Alen) (Nat.le_trans hle hm);have e1:=eF (P:=P) (w:=w) (k:=k') .slice3B hle';rcases nO h2 with⟨rfl,rfl⟩|⟨k',rfl,hle'⟩
 .simp only[Instr.sliceBounds,Option.map_none,conc,ae,ah,Result.andThen,e0,e1]
 .simp only[Instr.sliceBounds,af,conc,ae,ah,Result.andThen,e0,e1,Option.isSome_some,if_true,eF _ hle']
theorem I8{b off m l s:Nat}:(if m=l then some (⟨b,off,none⟩:Addr)else(some (⟨b,off,none⟩:Addr)).map (·.add (l*s)))=some ⟨b,bif Nat.beq m l then off else off+l*s,none⟩:=by
 by_cases h:m=l
 .rw[bi h,fl h];rfl
 .rw[bh h,fH h];simp[dW]
theorem vH{t:TypeId}{x q:SV}{lo hi mx:Option SV}(hq:d9 P t x lo hi mx=some q):
 (Instr.sliceAt t (conc θ x) (lo.map (conc θ)) (hi.map (conc θ)) (mx.map (conc θ))).run P w=.ok (conc θ q) w:=by
 unfold d9 at hq;split at hq
 .rename_i e b off len cap hu;split at hq
  .rename_i s h hs h1;split at hq
   .rename_i l h2;simp only[a7]at hq;subst hq;simp only[Instr.sliceAt,Instr.slice,conc,ae,be hu w,Result.andThen,Option.map_none,kf (θ:=θ) true h1 (av _) h2,cq hs w,ah,I8]
   .cases hq
  .cases hq
 .rename_i e b off len k cv hu;split at hq
  .rename_i s h hs h1;split at hq
   .rename_i l h2;have hb:=kf (P:=P) (w:=w) (θ:=θ) (cap:=k+θ.cap cv) true h1 (Nat.le_add_right _ _) h2;cases hlt:Nat.blt l k with
    |true=>
     rw[hlt]at hq;simp only[bf,a7]at hq;subst hq;have hlk:=ca hlt;have hne:¬(k+θ.cap cv=l):=by omega
     simp only[Instr.sliceAt,Instr.slice,conc,ae,be hu w,Result.andThen,Option.map_none,hb,cq hs w,ah,hne,if_false,af,dW];rw[show k+θ.cap cv-l=k-l+θ.cap cv by omega]
    |false=>
     rw[hlt]at hq;simp only[bg]at hq;cases hz:Nat.beq l 0 with
     |false=>
      rw[hz]at hq;simp only[bg]at hq;cases hk:Nat.beq l k&&Nat.beq h k with
      |false=>rw[hk]at hq;cases hq
      |true=>
       rw[hk]at hq;simp only[bf,a7]at hq;subst hq;rw[a8]at hk;have e1:=eq_of_beq hk.1;have e2:=eq_of_beq hk.2;have z0:h-l=0:=by omega
       have z1:k+θ.cap cv-l=θ.cap cv:=by omega
       simp only[Instr.sliceAt,Instr.slice,conc,ae,be hu w,Result.andThen,Option.map_none,hb,cq hs w,ah,I8,z0,z1];have:Nat.beq (k+θ.cap cv) l=Nat.beq (θ.cap cv) 0:=by
        by_cases hc:θ.cap cv=0
        .rw[fl hc,fl bj]
        .rw[fH hc,fH bj]
       rw[this]
     |true=>
      rw[hz]at hq;simp only[bf,a7]at hq;subst hq;have:=eq_of_beq hz;subst this;simp only[Instr.sliceAt,Instr.slice,conc,ae,be hu w,Result.andThen,Option.map_none,hb,cq hs w,ah,af,dW,Nat.zero_mul,Nat.add_zero,Nat.sub_zero,ite_self]
   .cases hq
  .cases hq
 .rename_i e b off len cap m hu;split at hq
  .rename_i s mm hs h0;split at hq
   .rename_i hv h h1;split at hq
    .rename_i l h2;simp only[a7]at hq;subst hq;simp only[Instr.sliceAt,Instr.slice,conc,ae,be hu w,Result.andThen,af,qC (θ:=θ) true h0 (av _) h1 h2,cq hs w,ah];have:=I8 (b:=θ.blk b) (off:=off) (m:=mm) (l:=l) (s:=s);simp only[af]at this;rw[this]
    .cases hq
   .cases hq
  .cases hq
 .rename_i e b off len k cv m hu;split at hq
  .rename_i s mm hs h0;split at hq
   .rename_i hv h h1;split at hq
    .rename_i l h2;simp only[a7]at hq;subst hq;simp only[Instr.sliceAt,Instr.slice,conc,ae,be hu w,Result.andThen,af,qC (θ:=θ) true h0 (Nat.le_add_right _ _) h1 h2,cq hs w,ah];have:=I8 (b:=θ.blk b) (off:=off) (m:=mm) (l:=l) (s:=s);simp only[af]at this;rw[this]
    .cases hq
   .cases hq
  .cases hq
 .rename_i n e b off hu;split at hq
  .rename_i s h hs h1;split at hq
   .rename_i l h2;simp only[a7]at hq;subst hq;simp only[Instr.sliceAt,conc,Instr.sureAddr,ae,be hu w,Result.andThen,Option.map_none,kf (θ:=θ) false h1 (av _) h2,cq hs w,ah];by_cases hnl:n=l
    .rw[bi hnl,fl hnl];rfl
    .rw[bh hnl,fH hnl,dW];rfl
   .cases hq
  .cases hq
 .rename_i a hu;split at hq
  all_goals first
   |(cases hq;done)
   |(rw[aa]at hq;obtain⟨v,hv,rfl⟩:=hq;exact bM _ v hv w)
 .rename_i a m hu;split at hq
  all_goals first
   |(cases hq;done)
   |(rw[aa]at hq;obtain⟨v,hv,rfl⟩:=hq;exact bM _ v hv w)
 .cases hq
theorem Ej{α:Type}{c:Bool}{x y:α}(h:(bif c then some x else none)=some y):x=y:=by
 cases c with
 |false=>cases h
 |true=>exact ab h
theorem sY{K:Nat->Prop}{t:TypeId}{x q:SV}{lo hi mx:Option SV}(hq:d9 P t x lo hi mx=some q)(hx:x.ok K):q.ok K:=by
 unfold d9 at hq;split at hq
 .split at hq
  .split at hq
   .simp only[a7]at hq;subst hq;exact hx
   .cases hq
  .cases hq
 .split at hq
  .split at hq
   .rename_i l h2;cases hlt:Nat.blt l _ with
    |true=>rw[hlt]at hq;simp only[bf,a7]at hq;subst hq;exact hx
    |false=>
     rw[hlt]at hq;simp only[bg]at hq;cases hz:Nat.beq l 0 with
     |false=>
      rw[hz]at hq;simp only[bg]at hq;have he:=Ej hq;subst he;exact hx
     |true=>rw[hz]at hq;simp only[bf,a7]at hq;subst hq;exact hx
   .cases hq
  .cases hq
 .split at hq
  .split at hq
   .split at hq
    .simp only[a7]at hq;subst hq;exact hx
    .cases hq
   .cases hq
  .cases hq
 .split at hq
  .split at hq
   .split at hq
    .simp only[a7]at hq;subst hq;exact hx.1
    .cases hq
   .cases hq
  .cases hq
 .split at hq
  .split at hq
   .simp only[a7]at hq;subst hq;exact hx
   .cases hq
  .cases hq
 .split at hq
  all_goals first
   |(cases hq;done)
   |(rw[aa]at hq;obtain⟨v,_,rfl⟩:=hq;trivial)
 .split at hq
  all_goals first
   |(cases hq;done)
   |(rw[aa]at hq;obtain⟨v,_,rfl⟩:=hq;trivial)
 .cases hq
def cg(θ:Ren)(e:SV×SV×Nat):MapEntry:=⟨conc θ e.1,conc θ e.2.1,e.2.2⟩
theorem mc{kt:TypeId}{d:TypeDesc}{k x:Value}{r r':Bool}(hu:tyU P kt=some d)(h:Instr.sameNow d k x=some r)(he:pureRun P (Op.equal kt k x)=some r'):r=r':=by
 have hrun:=bM _ r' he default;obtain⟨dd,hd⟩:=o0;rw[Op.equal,hd]at hrun;unfold Instr.sameNow at h;split at h
 .rename_i k1 k2 a k3 b;by_cases e:k2=k3
  .rw[bi e]at h;simp only[a7]at h;simp only[Op.equalIn,ae,be hu default,Result.andThen,e,if_true,ah,Result.ok.injEq,and_true]at hrun;rw[<-h,<-hrun]
  .rw[bh e]at h;cases h
 .rename_i a b;simp only[a7]at h;simp only[Op.equalIn,ae,be hu default,Result.andThen,ah,Result.ok.injEq,and_true]at hrun;rw[<-h,<-hrun]
 .rename_i a b;simp only[a7]at h;simp only[Op.equalIn,ae,be hu default,Result.andThen,ah,Result.ok.injEq,and_true]at hrun;rw[<-h,<-hrun]
 .cases h
theorem Ar{kt:TypeId}{d:TypeDesc}{k:Value}(hu:tyU P kt=some d)(es:List (SV×SV×Nat)):∀{i:Nat} {r:Option (Nat×SV)} {r':Option (Nat×Value)},fK P kt k es i=some r->
 Instr.findNow d k (es.map (cg θ)) i=some r'->r'=r.map λx=>(x.1,conc θ x.2):=by
 induction es with
 |nil=>intro i r r' h h';simp only[fK,a7]at h;simp only[aY,Instr.findNow,a7]at h';subst h h';rfl
 |cons e es ih=>
  intro i r r' h h';obtain⟨k',v,c⟩:=e;simp only[fK]at h;split at h
  .rename_i x hx;simp only[ax,Instr.findNow]at h';have hk:(cg θ (k',v,c)).key=x:=cW θ _ _ hx;rw[hk]at h';split at h
   .rename_i he;simp only[a7]at h;subst h;split at h'
    .simp only[a7]at h';subst h';rfl
    .rename_i hn;have:=mc hu hn he;cases this
    .cases h'
   .rename_i he;split at h'
    .rename_i hn;have:=mc hu hn he;cases this
    .exact ih h h'
    .cases h'
   .cases h
  .cases h
theorem sg{kt:TypeId}{k:Value}(es:List (SV×SV×Nat)):∀{i:Nat} {r:Option (Nat×SV)},fK P kt k es i=some r->
 (Instr.findAsking kt k (es.map (cg θ)) i).run P w=.ok (r.map λx=>(x.1,conc θ x.2)) w:=by
 induction es with
 |nil=>intro i r h;simp only[fK,a7]at h;subst h;rfl
 |cons e es ih=>
  intro i r h;obtain⟨k',v,c⟩:=e;simp only[fK]at h;split at h
  .rename_i x hx;have hk:(cg θ (k',v,c)).key=x:=cW θ _ _ hx;simp only[ax,Instr.findAsking,hk,ae];split at h
   .rename_i he;simp only[a7]at h;subst h;simp only[bM _ _ he w,Result.andThen,if_true,ah];rfl
   .rename_i he;simp only[bM _ _ he w,Result.andThen,aA,if_false];exact ih h
   .cases h
  .cases h
theorem gL{kt:TypeId}{d:TypeDesc}{k:Value}(hu:tyU P kt=some d){es:List (SV×SV×Nat)}{r:Option (Nat×SV)}(h:fK P kt k es 0=some r):
 (Instr.findKey kt k (es.map (cg θ))).run P w=.ok (r.map λx=>(x.1,conc θ x.2)) w:=by
 simp only[Instr.findKey,ae,be hu w,Result.andThen];cases hn:Instr.findNow d k (es.map (cg θ)) 0 with
 |none=>exact sg es h
 |some r'=>simp only[ah];rw[Ar hu es h hn]
theorem eU{e:Bool}{kt:TypeId}{k:Value}{u:Unit}(h:pureRun P (Instr.checkKey e 10000 kt k)=some u):∃d,tyU P kt=some d:=by
 have hr:=bM _ u h default;cases hu:tyU P kt with
 |some d=>exact⟨d,rfl⟩
 |none=>
  obtain⟨n,hn⟩:∃n,10000=n+1:=⟨9999,rfl⟩;rw[hn]at hr;have hus:(underlying kt).run P (default:World)=.halt (.stuck "no such type") default:=by
   have hu':P.underlying kt=none:=hu;simp only[underlying,ae,run_program,Result.andThen,hu',run_stuck]
  simp only[Instr.checkKey,ae,hus,Result.andThen]at hr;cases hr
theorem mv{b:Nat}{es:List (SV×SV×Nat)}{c:Nat}(hf:FactW θ w (.obj b (.map es c))):(getObj (θ.blk b)).run P w=.ok (.map (es.map (cg θ)).toArray c) w:=by
 obtain⟨ob,hw,hO⟩:=hf;simp only[ORep]at hO;subst hO;simp only[getObj,Sem.run,hw];rfl
theorem lg{h:Hp}{m:SV}{es:List (SV×SV×Nat)}{fs:List Fact}(hq:d8 h m=some (es,fs))(hf:∀f∈fs,FactW θ w f):
 (conc θ m=.map none/\es=[])\/∃r c,conc θ m=.map (some r)/\(getObj r).run P w=.ok (.map (es.map (cg θ)).toArray c) w:=by
 unfold d8 at hq;split at hq
 .simp only[a7,ap]at hq;obtain⟨rfl,rfl⟩:=hq;exact .inl ⟨rfl,rfl⟩
 .split at hq
  .rename_i b es' c hb;simp only[a7,ap]at hq;obtain⟨rfl,rfl⟩:=hq;exact .inr ⟨_,c,rfl,mv (hf _ (List.mem_singleton.2 rfl))⟩
  .cases hq
 .cases hq
theorem sD{h:Hp}{t:TypeId}{m k v:SV}{ok:Bool}{fs:List Fact}(hq:dC P h t m k ok=some (v,fs))(hf:∀f∈fs,FactW θ w f):
 (Instr.lookup t (conc θ m) (conc θ k) ok).run P w=.ok (conc θ v) w:=by
 unfold dC at hq;split at hq
 .rename_i kt et es gs kv hu hes hk;rw[cW θ _ _ hk];have hemp:(es.map (cg θ)).toArray.isEmpty=es.isEmpty:=by cases es<;>rfl
  split at hq
  .rename_i i v' hck hfd;simp only[a7,ap]at hq;obtain⟨rfl,rfl⟩:=hq;obtain⟨d,hd⟩:=eU hck;have hfk:=gL (θ:=θ) (w:=w) hd hfd;rcases lg (P:=P) hes hf with⟨hm,rfl⟩|⟨r,c,hm,hg⟩
   .simp only[fK,a7]at hfd;cases hfd
   .rw[hm];simp only[Instr.lookup,ae,be hu w,Result.andThen,hg,ah,hemp,bM _ _ hck w,hfk,af];cases ok<;>rfl
  .rename_i hck hfd;split at hq
   .rename_i z hz;simp only[a7,ap]at hq;obtain⟨rfl,rfl⟩:=hq;obtain⟨d,hd⟩:=eU hck;have hfk:=gL (θ:=θ) (w:=w) hd hfd;rcases lg (P:=P) hes hf with⟨hm,rfl⟩|⟨r,c,hm,hg⟩
    .rw[hm];simp only[aY,Option.map_none]at hfk;have hck':pureRun P (Instr.checkKey (#[]:Array MapEntry).isEmpty 10000 kt kv)=some _:=hck;simp only[Instr.lookup,ae,be hu w,Result.andThen,ah,bM _ _ hck' w,hfk,dj hz w];cases ok<;>rfl
    .rw[hm];simp only[Instr.lookup,ae,be hu w,Result.andThen,hg,ah,hemp,bM _ _ hck w,hfk,Option.map_none,dj hz w];cases ok<;>rfl
   .cases hq
  .cases hq
 .cases hq
theorem tV{kt:TypeId}{k:Value}(es:List (SV×SV×Nat)):∀{i j:Nat} {v:SV},fK P kt k es i=some (some (j,v))->∃e∈es,e.2.1=v:=by
 induction es with
 |nil=>intro i j v h;simp only[fK,a7]at h;cases h
 |cons e es ih=>
  intro i j v h;obtain⟨k',u,c⟩:=e;simp only[fK]at h;split at h
  .split at h
   .simp only[a7,ap]at h;exact⟨_,ak ..,h.2⟩
   .obtain⟨e,he,hv⟩:=ih h;exact⟨e,am _ he,hv⟩
   .cases h
  .cases h
theorem xJ{K:Nat->Prop}{h:Hp}{m:SV}{es:List (SV×SV×Nat)}{fs:List Fact}(hq:d8 h m=some (es,fs))(hh:∀b o,h.objs.get b=some o->o.ok K):∀e∈es,e.1.ok K/\e.2.1.ok K:=by
 unfold d8 at hq;split at hq
 .simp only[a7,ap]at hq;obtain⟨rfl,rfl⟩:=hq;intro e he;cases he
 .split at hq
  .rename_i hb;simp only[a7,ap]at hq;obtain⟨rfl,rfl⟩:=hq;exact hh _ _ hb
  .cases hq
 .cases hq
theorem gx{h:Hp}{m:SV}{es:List (SV×SV×Nat)}{fs:List Fact}(hq:d8 h m=some (es,fs)):∀f∈fs,fI h f:=by
 unfold d8 at hq;split at hq
 .simp only[a7,ap]at hq;obtain⟨rfl,rfl⟩:=hq;intro f hf;cases hf
 .split at hq
  .rename_i hb;simp only[a7,ap]at hq;obtain⟨rfl,rfl⟩:=hq;intro f hf;rw[List.mem_singleton.1 hf];exact hb
  .cases hq
 .cases hq
theorem sK{h:Hp}{t:TypeId}{m k v:SV}{ok:Bool}{fs:List Fact}(hq:dC P h t m k ok=some (v,fs)):∀f∈fs,fI h f:=by
 unfold dC at hq;split at hq
 .rename_i hes _;split at hq
  .simp only[a7,ap]at hq;obtain⟨rfl,rfl⟩:=hq;exact gx hes
  .split at hq
   .simp only[a7,ap]at hq;obtain⟨rfl,rfl⟩:=hq;exact gx hes
   .cases hq
  .cases hq
 .cases hq
theorem zE{K:Nat->Prop}{h:Hp}{t:TypeId}{m k v:SV}{ok:Bool}{fs:List Fact}(hq:dC P h t m k ok=some (v,fs))(hh:∀b o,h.objs.get b=some o->o.ok K):v.ok K/\∀f∈fs,fI h f:=by
 unfold dC at hq;split at hq
 .rename_i kt et es gs kv hu hes hk;split at hq
  .rename_i i v' hck hfd;simp only[a7,ap]at hq;obtain⟨rfl,rfl⟩:=hq;obtain⟨e,he,rfl⟩:=tV es hfd;have:=(xJ hes hh e he).2;refine⟨?_,gx hes⟩;cases ok
   .exact this
   .exact⟨this,trivial,trivial⟩
  .split at hq
   .simp only[a7,ap]at hq;obtain⟨rfl,rfl⟩:=hq;refine⟨?_,gx hes⟩;cases ok
    .trivial
    .exact⟨trivial,trivial,trivial⟩
   .cases hq
  .cases hq
 .cases hq
end
section
variable {P:Program}{Γ:Env}{θ:Ren}{w:World}
theorem Hj{tys:Array TypeId}{args:Array Value}{ty ty' t:TypeId}{x:Value}(h1:tys[0]? =some t)(h2:args[0]? =some x):Builtin.len_ tys ty args=Builtin.len_ #[t] ty' #[x]:=by
 unfold Builtin.len_;rw[h1,h2];rfl
theorem AL{h:Hp}{t:TypeId}{x v:SV}{fs:List Fact}(hq:gy P h t x=some (v,fs))(hf:∀f∈fs,FactW θ w f):
 (Builtin.len_ #[t] 0 #[conc θ x]).run P w=.ok (conc θ v) w:=by
 unfold gy at hq;split at hq
 .rename_i e b off n c hu;simp only[a7,ap]at hq;obtain⟨rfl,rfl⟩:=hq;simp[Builtin.len_,be hu w,conc]
 .rename_i e b off n k cv hu;simp only[a7,ap]at hq;obtain⟨rfl,rfl⟩:=hq;simp[Builtin.len_,be hu w,conc]
 .rename_i e b o1 o2 cv hu;simp only[a7,ap]at hq;obtain⟨rfl,rfl⟩:=hq;simp[Builtin.len_,be hu w,conc]
 .rename_i k e b hu;split at hq
  .rename_i es c hb;simp only[a7,ap]at hq;obtain⟨rfl,rfl⟩:=hq;have hg:=mv (P:=P) (hf _ (List.mem_singleton.2 rfl));simp[Builtin.len_,be hu w,conc,hg]
  .cases hq
 .split at hq
  .rename_i a ha;split at hq
   .rename_i u hu;simp only[a7,ap]at hq;obtain⟨rfl,rfl⟩:=hq;rw[cW θ _ _ ha];exact bM _ u hu w
   .cases hq
  .cases hq
theorem vK{K:Nat->Prop}{h:Hp}{t:TypeId}{x v:SV}{fs:List Fact}(hq:gy P h t x=some (v,fs)):v.ok K/\∀f∈fs,fI h f:=by
 unfold gy at hq;split at hq
 .simp only[a7,ap]at hq;obtain⟨rfl,rfl⟩:=hq;exact⟨trivial,λf hf=>by cases hf⟩
 .simp only[a7,ap]at hq;obtain⟨rfl,rfl⟩:=hq;exact⟨trivial,λf hf=>by cases hf⟩
 .simp only[a7,ap]at hq;obtain⟨rfl,rfl⟩:=hq;exact⟨trivial,λf hf=>by cases hf⟩
 .split at hq
  .rename_i hb;simp only[a7,ap]at hq;obtain⟨rfl,rfl⟩:=hq;exact⟨trivial,λf hf=>by rw[List.mem_singleton.1 hf];exact hb⟩
  .cases hq
 .split at hq
  .split at hq
   .simp only[a7,ap]at hq;obtain⟨rfl,rfl⟩:=hq;exact⟨trivial,λf hf=>by cases hf⟩
   .cases hq
  .cases hq
theorem y4{f:Value->ByteArray->Sem (ForInStep ByteArray)}(hfn:∀n s,f (.int .u8 n) s=pure (ForInStep.yield (s.push (UInt8.ofNat n.toNat))))(l:List SV):
 ∀{bs:bn},ml l=some bs->∀(s:ByteArray),(forIn (concL θ l) s f:Sem ByteArray).run P w=.ok ⟨s.data++bs.toArray⟩ w:=by
 induction l with
 |nil=>intro bs h s;simp only[ml,a7]at h;subst h;simp[concL]
 |cons v l ih=>
  intro bs h s;unfold ml at h;split at h
  .rename_i he;cases he
  .rename_i n l' he;cases he;split at h
   .rename_i r hr;simp only[a7]at h;subst h;have:=ih hr (s.push (UInt8.ofNat n.toNat));simp only[concL,conc,List.forIn_cons,hfn,ae,ah,Result.andThen];rw[this];congr 2;simp[ByteArray.push]
   .cases h
  .cases h
theorem jn{a:Addr}{n cap:Nat}{vs:List SV}{bs:bn}(hl:(loadCells a n).run P w=.ok (concL θ vs).toArray w)(hb:ml vs=some bs):
 (Conv.bytesToString (.slice (some a) n cap)).run P w=.ok (.string ⟨bs.toArray⟩) w:=by
 simp only[Conv.bytesToString,ae,hl,Result.andThen];rw[<-Array.forIn_toList];rw[y4 (P:=P) (w:=w) (θ:=θ) (λ_ _=>rfl) vs hb ByteArray.empty];show Result.ok (Value.string ⟨#[]++bs.toArray⟩) w=_;rw[Array.empty_append]
theorem qo{h:Hp}{s d:TypeId}{x v:SV}{fs:List Fact}(hq:eb P Γ h s d x=some (v,fs))(hg:GlobW Γ w)(hf:∀f∈fs,FactW θ w f):
 (convert s d (conc θ x)).run P w=.ok (conc θ v) w:=by
 unfold eb at hq;split at hq
 .rename_i e b off len c hs hd;split at hq
  .rename_i vs gs he hr;split at hq
   .rename_i bs hb;simp only[a7,ap]at hq;obtain⟨rfl,rfl⟩:=hq;obtain⟨a,ha,hl⟩:=dS (P:=P) hr hg hf;simp only[conc,Value.pointer.injEq,a7]at ha;subst ha;simp only[convert,ae,be hs w,be hd w,Result.andThen,conc,be he w];exact jn hl hb
   .cases hq
  .cases hq
 .rename_i e b off len k cv hs hd;split at hq
  .rename_i vs gs he hr;split at hq
   .rename_i bs hb;simp only[a7,ap]at hq;obtain⟨rfl,rfl⟩:=hq;obtain⟨a,ha,hl⟩:=dS (P:=P) hr hg hf;simp only[conc,Value.pointer.injEq,a7]at ha;subst ha;simp only[convert,ae,be hs w,be hd w,Result.andThen,conc,be he w];exact jn hl hb
   .cases hq
  .cases hq
 .split at hq
  .rename_i a ha;split at hq
   .rename_i u hu;simp only[a7,ap]at hq;obtain⟨rfl,rfl⟩:=hq;rw[cW θ _ _ ha];exact bM _ u hu w
   .cases hq
  .cases hq
theorem kK{K:Nat->Prop}{h:Hp}{s d:TypeId}{x v:SV}{fs:List Fact}(hq:eb P Γ h s d x=some (v,fs)):v.ok K/\∀f∈fs,fI h f:=by
 unfold eb at hq;split at hq
 .split at hq
  .rename_i hr;split at hq
   .simp only[a7,ap]at hq;obtain⟨rfl,rfl⟩:=hq;exact⟨trivial,cI hr⟩
   .cases hq
  .cases hq
 .split at hq
  .rename_i hr;split at hq
   .simp only[a7,ap]at hq;obtain⟨rfl,rfl⟩:=hq;exact⟨trivial,cI hr⟩
   .cases hq
  .cases hq
 .split at hq
  .split at hq
   .simp only[a7,ap]at hq;obtain⟨rfl,rfl⟩:=hq;exact⟨trivial,λf hf=>by cases hf⟩
   .cases hq
  .cases hq
theorem bD{o:Option SV}{v:SV}{fs:List Fact}(h:one o=some (v,fs)):o=some v/\fs=[]:=by
 unfold one at h;rw[aa]at h;obtain⟨x,hx,he⟩:=h;simp only[ap]at he;obtain⟨rfl,rfl⟩:=he;exact⟨hx,rfl⟩
theorem Bd{x:SV}(h:fZ x=true)(o:Oper)(y:Operand)(ho:o.op=.nilCheck y)(ρ:Operand->SV)(hy:ρ y=x):(execOp (λz=>conc θ (ρ z)) o).run P w=.ok (.value (conc θ x)) w:=by
 simp only[execOp,ho,hy];unfold fZ at h;split at h
 all_goals first
  |rfl
  |cases h
theorem sM{t xt:TypeId}{ok:Bool}{x v:SV}(hq:lO P t ok x=some v):(Instr.typeAssert (conc θ x) xt t ok).run P w=.ok (conc θ v) w:=by
 unfold lO at hq;split at hq
 .cases hq
 .cases hq
 .rename_i d hd hu;split at hq
  .rename_i t' u;cases hb:Nat.beq t' t with
   |true=>
    rw[hb]at hq;have he:=eq_of_beq hb;simp only[bf,a7]at hq;subst hq;simp only[Instr.typeAssert,ae,be hu w,Result.andThen,conc];cases d<;>first|exact absurd rfl (hd _)|(cases ok<;>simp[he,conc,concL,cP])
   |false=>
    rw[hb]at hq;have he:=ej hb;cases ok with
    |false=>cases hq
    |true=>
     simp only[bf,bg]at hq;rw[aa]at hq;obtain⟨z,hz,rfl⟩:=hq;simp only[Instr.typeAssert,ae,be hu w,Result.andThen,conc];cases d<;>first|exact absurd rfl (hd _)|simp[he,dj hz w,conc,concL,cP]
  .rename_i t' u;cases hb:Nat.beq t' t with
   |true=>
    rw[hb]at hq;have he:=eq_of_beq hb;simp only[bf,a7]at hq;subst hq;simp only[Instr.typeAssert,ae,be hu w,Result.andThen,conc];cases d<;>first|exact absurd rfl (hd _)|(cases ok<;>simp[he,conc,concL,cP])
   |false=>
    rw[hb]at hq;have he:=ej hb;cases ok with
    |false=>cases hq
    |true=>
     simp only[bf,bg]at hq;rw[aa]at hq;obtain⟨z,hz,rfl⟩:=hq;simp only[Instr.typeAssert,ae,be hu w,Result.andThen,conc];cases d<;>first|exact absurd rfl (hd _)|simp[he,dj hz w,conc,concL,cP]
  .cases ok with
   |false=>cases hq
   |true=>
    simp only[bf]at hq;rw[aa]at hq;obtain⟨z,hz,rfl⟩:=hq;simp only[Instr.typeAssert,ae,be hu w,Result.andThen,conc];cases d<;>first|exact absurd rfl (hd _)|simp[dj hz w,conc,concL,cP]
  .cases hq
theorem qG{K:Nat->Prop}{t:TypeId}{ok:Bool}{x v:SV}(hq:lO P t ok x=some v)(hx:x.ok K):v.ok K:=by
 have hfail:∀{b:Bool},(bif b then(dB P t).map λz=>SV.tuple [.lit z,cP false]else none)=some v->v.ok K:=λ{b} h=>by
  cases b with
  |false=>cases h
  |true=>
   simp only[bf]at h;rw[aa]at h;obtain⟨z,_,rfl⟩:=h;exact⟨trivial,trivial,trivial⟩
 unfold lO at hq;split at hq
 .cases hq
 .cases hq
 .split at hq
  .rename_i t' u;cases hb:Nat.beq t' t with
   |true=>
    rw[hb]at hq;simp only[bf,a7]at hq;subst hq;cases ok with
    |true=>exact⟨hx,trivial,trivial⟩
    |false=>exact hx
   |false=>rw[hb]at hq;exact hfail hq
  .rename_i t' u;cases hb:Nat.beq t' t with
   |true=>
    rw[hb]at hq;simp only[bf,a7]at hq;subst hq;cases ok with
    |true=>exact⟨trivial,trivial,trivial⟩
    |false=>trivial
   |false=>rw[hb]at hq;exact hfail hq
  .exact hfail hq
  .cases hq
theorem oY{h:Hp}{ρ:Operand->SV}{o:Oper}{v:SV}{fs:List Fact}(hq:quiet P Γ h ρ o.op=some (v,fs))(hg:GlobW Γ w)(hf:∀f∈fs,FactW θ w f):
 (execOp (λx=>conc θ (ρ x)) o).run P w=.ok (.value (conc θ v)) w:=by
 unfold quiet at hq;split at hq
 .rename_i x ho;simp only[a7,ap]at hq;obtain⟨rfl,rfl⟩:=hq;simp only[execOp,ho,ah]
 .rename_i x ho;simp only[a7,ap]at hq;obtain⟨rfl,rfl⟩:=hq;simp only[execOp,ho,ah]
 .rename_i c a b ho;split at hq
  .rename_i t ht;simp only[a7,ap]at hq;obtain⟨rfl,rfl⟩:=hq;simp only[execOp,ho,ht,conc,asBool,ae,ah,Result.andThen];cases t<;>rfl
  .cases hq
 .rename_i t a ho;simp only[execOp,ho,ae,wH hq hg hf,Result.andThen,ah]
 .rename_i x ho;cases hn:fZ (ρ x)with
  |false=>rw[hn]at hq;cases hq
  |true=>
   rw[hn]at hq;simp only[bf,a7,ap]at hq;obtain⟨rfl,rfl⟩:=hq;exact Bd hn o x ho ρ rfl
 .rename_i s x i ho;obtain⟨h1,rfl⟩:=bD hq;simp only[execOp,ho,ae,ow h1,Result.andThen,ah]
 .rename_i t x i ho;obtain⟨h1,rfl⟩:=bD hq;simp only[execOp,ho,ae,oR h1,Result.andThen,ah]
 .rename_i t x i ho;split at hq
  .rename_i fields hu;split at hq
   .rename_i f l hfi hx;obtain⟨h1,rfl⟩:=bD hq;simp only[execOp,ho,Instr.field,ae,be hu w,Result.andThen,hfi,hx,conc,asAgg,ah,kL h1]
   .rename_i f cs hfi hx;obtain⟨h1,rfl⟩:=bD hq;have:=kL (θ:=θ) (w:=w) h1;rw[kA]at this;simp only[execOp,ho,Instr.field,ae,be hu w,Result.andThen,hfi,hx,conc,asAgg,ah,this]
   .cases hq
  .cases hq
 .rename_i t x i ho;obtain⟨h1,rfl⟩:=bD hq;simp only[execOp,ho,ae,vg h1,Result.andThen,ah]
 .rename_i x i ho;split at hq
  .rename_i l hx;obtain⟨h1,rfl⟩:=bD hq;simp only[execOp,ho,hx,conc,Instr.extract,aP,ez,h1,af,ae,ah,Result.andThen]
  .rename_i vs hx;obtain⟨h1,rfl⟩:=bD hq;rw[aa]at h1;obtain⟨u,hu,rfl⟩:=h1;simp only[execOp,ho,hx,conc,Instr.extract,hu,ae,ah,Result.andThen]
  .cases hq
 .rename_i t parts ho;obtain⟨h1,rfl⟩:=bD hq;have:=u4 (θ:=θ) (w:=w) h1;have he:(parts.map λ(x:Nat×Operand)=>(x.1,conc θ (ρ x.2)))=((parts.toList.map λp=>(p.1,ρ p.2)).map λp=>(p.1,conc θ p.2)).toArray:=by
   rw[<-aN];simp
  simp only[execOp,ho];rw[he];simp only[ae,this,Result.andThen,ah]
 .rename_i fn a c ho;simp only[a7,ap]at hq;obtain⟨rfl,rfl⟩:=hq;simp only[execOp,ho,Instr.makeFunc,ae,ah,Result.andThen,conc];congr 3
  .rw[<-aN];simp[cV]
  .rw[<-aN];simp[cV]
 .rename_i t x ho;split at hq
  .cases hq
  .rename_i d hd hu;simp only[a7,ap]at hq;obtain⟨rfl,rfl⟩:=hq;simp only[execOp,ho,Instr.makeInterface,ae,be hu w,Result.andThen,conc];cases d<;>first|rfl|(exact absurd rfl (hd _))
  .cases hq
 .rename_i op t x y ty ho;obtain⟨h1,rfl⟩:=bD hq;have:=AQ (θ:=θ) (w:=w) h1;simp only[execOp,ho];rw[ae,this];rfl
 .rename_i op t x ho;split at hq
  .rename_i a ha;obtain⟨h1,rfl⟩:=bD hq;rw[aa]at h1;obtain⟨u,hu,rfl⟩:=h1;simp only[execOp,ho,cW θ _ _ ha,ae,bM _ u hu w,Result.andThen,ah,conc]
  .cases hq
 .rename_i s d x ho;simp only[execOp,ho,ae,qo hq hg hf,Result.andThen,ah]
 .rename_i t x lo hi mx ho;obtain⟨h1,rfl⟩:=bD hq;have:=vH (θ:=θ) (w:=w) h1;simp only[Option.map_map]at this;simp only[execOp,ho,ae];rw[show(λx=>conc θ (ρ x))=conc θ∘ρ from rfl,this];rfl
 .rename_i t m k ok ho;simp only[execOp,ho,ae,sD hq hf,Result.andThen,ah]
 .rename_i x xt t ok ho;obtain⟨h1,rfl⟩:=bD hq;simp only[execOp,ho,ae,sM h1,Result.andThen,ah]
 .rename_i args tys ho;split at hq
  .rename_i x t hx ht;have hs:=AL hq hf;simp only[execOp,ho,resolve,ae,ah,Result.andThen,invoke,builtin];rw[Hj (ty':=0) (x:=conc θ (ρ x)) ht (by simp[hx]),hs]
  .cases hq
 .rename_i args tys ho;split at hq
  .rename_i vs hvs;obtain⟨h1,rfl⟩:=bD hq;rw[aa]at h1;obtain⟨u,hu,rfl⟩:=h1;have he:(args.map λx=>conc θ (ρ x))=vs.toArray:=by
    rw[<-gY θ _ _ hvs,<-aN];simp[cV]
   have hr:=bM _ u hu w;simp only[execOp,ho,resolve,ae,ah,Result.andThen,invoke,builtin,he];unfold Builtin.max_ at hr⊢;rw[hr];rfl
  .cases hq
 .rename_i args tys ho;split at hq
  .rename_i vs hvs;obtain⟨h1,rfl⟩:=bD hq;rw[aa]at h1;obtain⟨u,hu,rfl⟩:=h1;have he:(args.map λx=>conc θ (ρ x))=vs.toArray:=by
    rw[<-gY θ _ _ hvs,<-aN];simp[cV]
   have hr:=bM _ u hu w;simp only[execOp,ho,resolve,ae,ah,Result.andThen,invoke,builtin,he];unfold Builtin.min_ at hr⊢;rw[hr];rfl
  .cases hq
 .cases hq
theorem F5{K:Nat->Prop}{h:Hp}{ρ:Operand->SV}{op:Op}{v:SV}{fs:List Fact}(hq:quiet P Γ h ρ op=some (v,fs))(hρ:∀x∈op.operands,(ρ x).ok K)(hh:∀b o,h.objs.get b=some o->o.ok K):v.ok K:=by
 unfold quiet at hq;split at hq
 .simp only[a7,ap]at hq;obtain⟨rfl,rfl⟩:=hq;exact hρ _ (by simp[Op.operands])
 .simp only[a7,ap]at hq;obtain⟨rfl,rfl⟩:=hq;exact hρ _ (by simp[Op.operands])
 .split at hq
  .rename_i t ht;simp only[a7,ap]at hq;obtain⟨rfl,rfl⟩:=hq;cases t
   .exact hρ _ (by simp[Op.operands])
   .exact hρ _ (by simp[Op.operands])
  .cases hq
 .exact xr hq hh
 .rename_i x;cases hn:fZ (ρ x)with
  |false=>rw[hn]at hq;cases hq
  |true=>
   rw[hn]at hq;simp only[bf,a7,ap]at hq;obtain⟨rfl,rfl⟩:=hq;exact hρ _ (by simp[Op.operands])
 .obtain⟨h1,rfl⟩:=bD hq;exact lY h1 (hρ _ (by simp[Op.operands]))
 .obtain⟨h1,rfl⟩:=bD hq;exact lZ h1 (hρ _ (by simp[Op.operands]))
 .rename_i t x i;split at hq
  .split at hq
   .rename_i f l hfi hx;obtain⟨h1,rfl⟩:=bD hq;have:=hρ x (by simp[Op.operands]);rw[hx]at this;exact k7 h1 this
   .obtain⟨h1,rfl⟩:=bD hq;exact k7 h1 (gk _ _)
   .cases hq
  .cases hq
 .obtain⟨h1,rfl⟩:=bD hq;exact tD h1 (hρ _ (by simp[Op.operands]))
 .rename_i x i;split at hq
  .rename_i l hx;obtain⟨h1,rfl⟩:=bD hq;have:=hρ x (by simp[Op.operands]);rw[hx]at this;exact(dQ _ _).1 this _ (aW h1)
  .obtain⟨h1,rfl⟩:=bD hq;rw[aa]at h1;obtain⟨u,_,rfl⟩:=h1;trivial
  .cases hq
 .rename_i t parts;obtain⟨h1,rfl⟩:=bD hq;refine to h1 λp hp=>?_;obtain⟨q,hq,rfl⟩:=List.mem_map.1 hp;refine hρ _ ?_;simp only[Op.operands,List.mem_toArray,List.mem_map];exact⟨q,hq,rfl⟩
 .rename_i fn a c;simp only[a7,ap]at hq;obtain⟨rfl,rfl⟩:=hq;refine⟨(dQ _ _).2 λv hv=>?_,(dQ _ _).2 λv hv=>?_⟩
  .obtain⟨x,hx,rfl⟩:=List.mem_map.1 hv;exact hρ _ (by simp only[Op.operands,Array.mem_append];exact .inl (by simpa using hx))
  .obtain⟨x,hx,rfl⟩:=List.mem_map.1 hv;exact hρ _ (by simp only[Op.operands,Array.mem_append];exact .inr (by simpa using hx))
 .split at hq
  .cases hq
  .simp only[a7,ap]at hq;obtain⟨rfl,rfl⟩:=hq;exact hρ _ (by simp[Op.operands])
  .cases hq
 .obtain⟨h1,rfl⟩:=bD hq;exact BI h1
 .split at hq
  .obtain⟨h1,rfl⟩:=bD hq;rw[aa]at h1;obtain⟨u,_,rfl⟩:=h1;trivial
  .cases hq
 .exact(kK hq).1
 .obtain⟨h1,rfl⟩:=bD hq;exact sY h1 (hρ _ (by simp[Op.operands]))
 .exact(zE hq hh).1
 .obtain⟨h1,rfl⟩:=bD hq;exact qG h1 (hρ _ (by simp[Op.operands]))
 .split at hq
  .exact(vK hq).1
  .cases hq
 .split at hq
  .obtain⟨h1,rfl⟩:=bD hq;rw[aa]at h1;obtain⟨u,_,rfl⟩:=h1;trivial
  .cases hq
 .split at hq
  .obtain⟨h1,rfl⟩:=bD hq;rw[aa]at h1;obtain⟨u,_,rfl⟩:=h1;trivial
  .cases hq
 .cases hq
theorem pc{h:Hp}{ρ:Operand->SV}{op:Op}{v:SV}{fs:List Fact}(hq:quiet P Γ h ρ op=some (v,fs)):∀f∈fs,fI h f:=by
 have nil:∀f∈([]:List Fact),fI h f:=λf hf=>by cases hf
 unfold quiet at hq;split at hq
 .simp only[a7,ap]at hq;obtain⟨rfl,rfl⟩:=hq;exact nil
 .simp only[a7,ap]at hq;obtain⟨rfl,rfl⟩:=hq;exact nil
 .split at hq
  .simp only[a7,ap]at hq;obtain⟨rfl,rfl⟩:=hq;exact nil
  .cases hq
 .exact o5 hq
 .rename_i x;cases hn:fZ (ρ x)with
  |false=>rw[hn]at hq;cases hq
  |true=>rw[hn]at hq;simp only[bf,a7,ap]at hq;obtain⟨rfl,rfl⟩:=hq;exact nil
 .obtain⟨_,rfl⟩:=bD hq;exact nil
 .obtain⟨_,rfl⟩:=bD hq;exact nil
 .split at hq
  .split at hq
   .obtain⟨_,rfl⟩:=bD hq;exact nil
   .obtain⟨_,rfl⟩:=bD hq;exact nil
   .cases hq
  .cases hq
 .obtain⟨_,rfl⟩:=bD hq;exact nil
 .split at hq
  .obtain⟨_,rfl⟩:=bD hq;exact nil
  .obtain⟨_,rfl⟩:=bD hq;exact nil
  .cases hq
 .obtain⟨_,rfl⟩:=bD hq;exact nil
 .simp only[a7,ap]at hq;obtain⟨rfl,rfl⟩:=hq;exact nil
 .split at hq
  .cases hq
  .simp only[a7,ap]at hq;obtain⟨rfl,rfl⟩:=hq;exact nil
  .cases hq
 .obtain⟨_,rfl⟩:=bD hq;exact nil
 .split at hq
  .obtain⟨_,rfl⟩:=bD hq;exact nil
  .cases hq
 .exact(kK (K:=λ_=>True) hq).2
 .obtain⟨_,rfl⟩:=bD hq;exact nil
 .exact(sK hq)
 .obtain⟨_,rfl⟩:=bD hq;exact nil
 .split at hq
  .exact(vK (K:=λ_=>True) hq).2
  .cases hq
 .split at hq
  .obtain⟨_,rfl⟩:=bD hq;exact nil
  .cases hq
 .split at hq
  .obtain⟨_,rfl⟩:=bD hq;exact nil
  .cases hq
 .cases hq
end
def AskH(P:Program)(Γ:Glob)(θ:Ren)(K:Nat->Prop):Prop:=∀op ρ v,Γ.ask op ρ=some v->(∀x∈op.operands,(ρ x).ok K)->
 v.ok K/\isSelect op=false/\isDefer op=false/\∀(o:Oper) (w:World),o.op=op->(execOp (λx=>conc θ (ρ x)) o).run P w=.ok (.value (conc θ v)) w
class AskOk (P:Program) (Γ:Env):Prop where
 ok:∀{X:Nat->Prop} {w0:World} {θ:Ren} {K:Nat->Prop},Γ.inv X w0 θ K->AskH P Γ θ K
class Mute (Γ:Glob):Prop where
 mute:Γ.ask=noAsk
instance (t:T (List Value)):Mute ⟨t,noAsk⟩:=⟨rfl⟩
instance:Mute Glob.leaf:=⟨rfl⟩
instance (Γ:Glob)[m:Mute Γ](g:Nat)(l:List Value):Mute (Γ.set g l):=⟨m.mute⟩
theorem AskOk.quietly{P:Program}{Γ:Env}(h:Γ.tab.ask=noAsk):AskOk P Γ:=⟨λ_ op ρ v hv=>by rw[h]at hv;cases hv⟩
instance {P:Program}{Γ:Glob}[m:Mute Γ]:AskOk P (.plain Γ):=AskOk.quietly m.mute
theorem ku{P:Program}{Γ:Glob}{h:Hp}{ρ:Operand->SV}{op:Op}{v:SV}{fs:List Fact}(hq:jD P Γ h ρ op=some (v,fs)):quiet P Γ h ρ op=some (v,fs)\/(fs=[]/\Γ.ask op ρ=some v):=by
 unfold jD at hq;split at hq
 .rename_i r hr;rw[hr];exact .inl hq
 .split at hq
  .rename_i u hu;simp only[a7,ap]at hq;obtain⟨rfl,rfl⟩:=hq;exact .inr ⟨rfl,hu⟩
  .cases hq
theorem tG{P:Program}{Γ:Glob}{h:Hp}{ρ:Operand->SV}{op:Op}{r:SV×List Fact}(hq:quiet P Γ h ρ op=some r):jD P Γ h ρ op=some r:=by rw[jD,hq]
theorem fh{P:Program}{Γ:Glob}[m:Mute Γ]{h:Hp}{ρ:Operand->SV}{op:Op}(hq:quiet P Γ h ρ op=none):jD P Γ h ρ op=none:=by rw[jD,hq,m.mute];rfl
def ef(w:World)(b:Nat)(ob:Obj):World:={w with heap:=w.heap.setIfInBounds b ob}
theorem fj(w:World)(b:Nat)(ob:Obj)(k:Nat):(ef w b ob).heap[k]? =if k=b/\b<w.heap.size then some ob else w.heap[k]? :=by
 simp only[ef,Array.getElem?_setIfInBounds];by_cases h:b=k
 .subst h;by_cases h2:b<w.heap.size
  .simp[h2]
  .simp[h2]
 .rw[bh h,bh (λe=>h e.1.symm)]
theorem nN{w:World}{b:Nat}{ob ob':Obj}(h:w.heap[b]? =some ob):(ef w b ob').heap[b]? =some ob':=by
 rw[fj,bi ⟨rfl,(Array.getElem?_eq_some_iff.1 h).1⟩]
theorem Dk(w:World)(b:Nat)(ob ob':Obj):ef (ef w b ob) b ob'=ef w b ob':=by
 have:(ef (ef w b ob) b ob').heap=(ef w b ob').heap:=Array.ext_getElem? λk=>by
  rw[fj,fj,fj];have hs:(ef w b ob).heap.size=w.heap.size:=by simp[ef]
  rw[hs];by_cases h:k=b/\b<w.heap.size
  .rw[bi h,bi h]
  .rw[bh h,bh h,bh h]
 simp only[ef]at this⊢;rw[this]
theorem Jr{w:World}{b:Nat}{ob:Obj}(h:w.heap[b]? =some ob):ef w b ob=w:=by
 have:(ef w b ob).heap=w.heap:=Array.ext_getElem? λk=>by
  rw[fj];by_cases hk:k=b/\b<w.heap.size
  .rw[bi hk,hk.1,h]
  .rw[bh hk]
 simp only[ef]at this⊢;rw[this]
theorem nu{w:World}{b off:Nat}{c:Array Value}{e:TypeId}{fr:Nat×Nat}(h:w.heap[b]? =some (.cells c e fr))(v:Value):
 w.setCell ⟨b,off,none⟩ v=ef w b (.cells (c.setIfInBounds off v) e fr):=by
 have hlt:=(Array.getElem?_eq_some_iff.1 h).1;have:(w.setCell ⟨b,off,none⟩ v).heap=(ef w b (.cells (c.setIfInBounds off v) e fr)).heap:=Array.ext_getElem? λk=>by
  rw[fj];simp only[World.setCell,Array.getElem?_modify];by_cases hk:b=k
  .subst hk;rw[bi rfl,bi ⟨rfl,hlt⟩,h];simp
  .rw[bh hk,bh (λe=>hk e.1.symm)]
 simp only[World.setCell,ef]at this⊢;rw[this]
theorem fW{P:Program}{b off:Nat}{e:TypeId}{fr:Nat×Nat}(vs:List Value):∀(i:Nat) (L:List Value) (w:World),w.heap[b]? =some (.cells L.toArray e fr)->off+i+vs.length<=L.length->frOk fr L.length->
 (∀v∈vs,v.oneCell'=true)->(storeCells ⟨b,off,none⟩ vs i).run P w=.ok () (ef w b (.cells (L.take (off+i)++vs++L.drop (off+i+vs.length)).toArray e fr)):=by
 induction vs with
 |nil=>
  intro i L w hw _ _ _;simp only[storeCells,ah,List.append_nil,aw,Nat.add_zero,List.take_append_drop];rw[Jr hw]
 |cons v vs ih=>
  intro i L w hw hle hfr hone;simp only[au]at hle;have hlt:off+i<L.length:=by omega
  have hcell:w.cell? ⟨b,off+i,none⟩=some L[off+i]:=by
   simp[World.cell?,hw,hlt]
  have hfz:w.frozen? ⟨b,off+i,none⟩=false:=by
   simp only[World.frozen?,hw];have:=hfr.at (off+i) hlt
   simpa using this
  have h1:=run_store P w ⟨b,off+i,none⟩ v .plain (hone v (ak ..));simp only[hcell,hfz,aA,if_false]at h1;simp only[storeCells,ae,dW,h1,Result.andThen];rw[nu hw,List.setIfInBounds_toArray];rw[ih (i+1) (L.set (off+i) v) _ (nN hw) (by simp only[List.length_set];omega) (by simpa using hfr) (λu hu=>hone u (am _ hu)),Dk];congr 4;rw[show off+(i+1)=(off+i)+1 by omega,List.take_succ_eq_append_getElem (by simpa using hlt),List.take_set_of_le (av _),List.getElem_set_self];rw[List.drop_set_of_lt bj,au,show off+i+1+vs.length=off+i+(vs.length+1) by omega];simp
section
variable {P:Program}{Γ:Env}{X:Nat->Prop}{w0:World}{θ:Ren}{K:Nat->Prop}{h:Hp}{w:World}
theorem Rep.same{w':World}(hr:Rep Γ X w0 θ K h w)(h1:w'.os=w.os)(h2:w'.tape=w.tape)(h3:w'.output=w.output)(h4:w'.heap=w.heap):Rep Γ X w0 θ K h w':=
 ⟨h1.trans hr.os,h2.trans hr.tape,h3.trans hr.output,by rw[h4];exact hr.size,λk hk=>by rw[h4];exact hr.kept k hk,hr.low,hr.glob,
  λb o hb=>by rw[h4];exact hr.obj b o hb,hr.inj,hr.next,hr.inv⟩
theorem Rep.turn{b:Nat}{o o':AObj}{ob':Obj}(hr:Rep Γ X w0 θ K h w)(hb:h.objs.get b=some o)(hok:o'.ok K)(hO:ORep θ o' ob'):Rep Γ X w0 θ K (h.upd b o') (ef w (θ.blk b) ob'):=by
 obtain⟨hKb,hXb,_,ob,hw,_⟩:=hr.obj b o hb;have hlt:=(Array.getElem?_eq_some_iff.1 hw).1;refine⟨hr.os,hr.tape,hr.output,by simpa[ef]using hr.size,λk hk=>?_,hr.low,hr.glob,λb' o1 hb'=>?_,λb1 b2 o1 o2 h1 h2 he=>?_,hr.next,hr.inv⟩
 .rw[fj,bh (λe:k=θ.blk b/\_=>hXb (e.1▸hk))];exact hr.kept k hk
 .simp only[Hp.upd,T.get_set]at hb';by_cases e:b'=b
  .subst e;rw[bi rfl]at hb';cases hb';exact⟨hKb,hXb,hok,ob',nN hw,hO⟩
  .rw[bh e]at hb';obtain⟨k1,k2,k3,ob1,k4,k5⟩:=hr.obj b' o1 hb';refine⟨k1,k2,k3,ob1,?_,k5⟩;rw[fj,bh (λe':θ.blk b'=θ.blk b/\_=>e (hr.inj b' b o1 o hb' hb e'.1))];exact k4
 .simp only[Hp.upd,T.get_set]at h1 h2;have g1:∃o,h.objs.get b1=some o:=by
   by_cases e:b1=b
   .exact⟨o,by rw[e];exact hb⟩
   .rw[bh e]at h1;exact⟨o1,h1⟩
  have g2:∃o,h.objs.get b2=some o:=by
   by_cases e:b2=b
   .exact⟨o,by rw[e];exact hb⟩
   .rw[bh e]at h2;exact⟨o2,h2⟩
  obtain⟨p1,q1⟩:=g1;obtain⟨p2,q2⟩:=g2;exact hr.inj b1 b2 p1 p2 q1 q2 he
def Ren.bind(θ:Ren)(β n c:Nat):Ren:={θ with blk:=λi=>if i=β then n else θ.blk i,cap:=λi=>if i=β then c else θ.cap i}
theorem Ren.bind_ext{β n c:Nat}(hβ:¬K β):Ext K θ (θ.bind β n c):=
 ⟨λi hi=>by simp only[Ren.bind];rw[bh (λe:i=β=>hβ (e▸hi))],λi hi=>by simp only[Ren.bind];rw[bh (λe:i=β=>hβ (e▸hi))],λ_ _=>rfl,λ_ _=>rfl⟩
@[simp] theorem Ren.bind_blk {β n c:Nat}:(θ.bind β n c).blk β=n:=by simp[Ren.bind]
@[simp] theorem Ren.bind_cap {β n c:Nat}:(θ.bind β n c).cap β=c:=by simp[Ren.bind]
def hJ(K:Nat->Prop)(β:Nat):Nat->Prop:=λi=>K i\/i=β
theorem bW{β:Nat}:∀i,K i->hJ K β i:=λ_ h=>.inl h
theorem cT{β:Nat}:∀i,hJ K β i->K i\/β<=i:=λ_ h=>h.imp id λe=>Nat.le_of_eq e.symm
theorem Rep.make{β nx c:Nat}{o:AObj}{ob:Obj}{w':World}(hr:Rep Γ X w0 θ K h w)(hβ:¬K β)(hnx:∀i,nx<=i->¬K i)(hlt:β<nx)
 (h1:w'.os=w.os) (h2:w'.tape=w.tape) (h3:w'.output=w.output) (h4:w'.heap=w.heap.push ob)
 (hok:o.ok (hJ K β)) (hO:ORep (θ.bind β w.heap.size c) o ob):Rep Γ X w0 (θ.bind β w.heap.size c) (hJ K β) ⟨h.objs.set β o,nx⟩ w':=by
 have hE:Ext K θ (θ.bind β w.heap.size c):=Ren.bind_ext hβ;have hX:¬X w.heap.size:=λhx=>by have:=hr.low _ hx;have:=hr.size;omega
 have hne:∀b o,h.objs.get b=some o->b≠β:=λb o hb e=>hβ (e▸(hr.obj b o hb).1);have hblk:∀b o,h.objs.get b=some o->(θ.bind β w.heap.size c).blk b=θ.blk b/\θ.blk b<w.heap.size:=λb o hb=>by
  obtain⟨k1,_,_,ob1,k4,_⟩:=hr.obj b o hb;exact⟨hE.blk b k1,(Array.getElem?_eq_some_iff.1 k4).1⟩
 refine⟨h1.trans hr.os,h2.trans hr.tape,h3.trans hr.output,?_,λk hk=>?_,hr.low,hr.glob,λb o1 hb=>?_,λb1 b2 o1 o2 g1 g2 he=>?_,λi hi=>?_,Γ.ext hr.inv hE bW⟩
 .rw[h4,Array.size_push];have:=hr.size;omega
 .rw[h4,Array.getElem?_push,bh (by have:=hr.low k hk;have:=hr.size;omega)];exact hr.kept k hk
 .simp only[T.get_set]at hb;by_cases e:b=β
  .subst e;rw[bi rfl]at hb;cases hb;refine⟨.inr rfl,by rw[Ren.bind_blk];exact hX,hok,ob,?_,hO⟩;rw[h4,Ren.bind_blk,Array.getElem?_push,bi rfl]
  .rw[bh e]at hb;obtain⟨k1,k2,k3,ob1,k4,k5⟩:=hr.obj b o1 hb;obtain⟨e1,e2⟩:=hblk b o1 hb;refine⟨.inl k1,by rw[e1];exact k2,AObj.ok_mono bW _ k3,ob1,?_,jW hE k3 k5⟩;rw[h4,e1,Array.getElem?_push,bh bj];exact k4
 .simp only[T.get_set]at g1 g2;by_cases e1:b1=β
  .by_cases e2:b2=β
   .rw[e1,e2]
   .rw[bh e2]at g2;obtain⟨k1,k2⟩:=hblk b2 o2 g2;rw[e1,Ren.bind_blk,k1]at he;omega
  .rw[bh e1]at g1;by_cases e2:b2=β
   .obtain⟨k1,k2⟩:=hblk b1 o1 g1;rw[e2,Ren.bind_blk,k1]at he;omega
   .rw[bh e2]at g2;rw[(hblk b1 o1 g1).1,(hblk b2 o2 g2).1]at he;exact hr.inj b1 b2 o1 o2 g1 g2 he
 .have hi':nx<=i:=hi;rintro(hk|rfl)
  .exact hnx i hi' hk
  .omega
theorem Rep.make_next{c:Nat}{o:AObj}{ob:Obj}{w':World}(hr:Rep Γ X w0 θ K h w)(h1:w'.os=w.os)(h2:w'.tape=w.tape)(h3:w'.output=w.output)(h4:w'.heap=w.heap.push ob)
 (hok:o.ok (hJ K h.next)) (hO:ORep (θ.bind h.next w.heap.size c) o ob):Rep Γ X w0 (θ.bind h.next w.heap.size c) (hJ K h.next) ⟨h.objs.set h.next o,h.next+1⟩ w':=
 hr.make (hr.next _ (av _)) (λi hi=>hr.next i bj) (aq _) h1 h2 h3 h4 hok hO
theorem Rep.okAll(hr:Rep Γ X w0 θ K h w):∀b o,h.objs.get b=some o->o.ok K:=λb o hb=>(hr.obj b o hb).2.2.1
theorem Rep.fewer{t:T AObj}(hr:Rep Γ X w0 θ K h w)(hs:∀b o,t.get b=some o->h.objs.get b=some o):Rep Γ X w0 θ K ⟨t,h.next⟩ w:=
 ⟨hr.os,hr.tape,hr.output,hr.size,hr.kept,hr.low,hr.glob,λb o hb=>hr.obj b o (hs b o hb),λb b' o o' hb hb'=>hr.inj b b' o o' (hs b o hb) (hs b' o' hb'),hr.next,hr.inv⟩
def Eff(P:Program)(Γ:Env)(X:Nat->Prop)(w0:World)(θ:Ren)(K:Nat->Prop)(n:Nat)(s:Sem Next)(w:World)(outs:List (SV×Hp)):Prop:=
 ∃r∈outs,∃(θ':Ren) (K':Nat->Prop) (w':World) (nx:Next),Ext K θ θ'/\(∀i,K i->K' i)/\(∀i,K' i->K i\/n<=i)/\s.run P w=.ok nx w'/\
  (nx=.value (conc θ' r.1)\/(nx=.skip/\r.1=.lit undef))/\r.1.ok K'/\Rep Γ X w0 θ' K' r.2 w'
theorem H5{v:SV}(h:v.one=true):(conc θ v).oneCell'=true:=by
 unfold SV.one at h;split at h
 all_goals first
  |cases h
  |skip
 rename_i h1 h2 h3 h4;cases v with
 |lit x=>cases x<;>first|rfl|exact absurd rfl (h3 _)|exact absurd rfl (h4 _)
 |agg l=>exact absurd rfl (h1 l)
 |tuple l=>exact absurd rfl (h2 l)
 |opq i=>simp only[conc];cases θ.opq i<;>rfl
 |_=>rfl
theorem vG{vs:List SV}(h:vs.all SV.one=true):∀v∈concL θ vs,v.oneCell'=true:=λv hv=>by
 rw[cV]at hv;obtain⟨x,hx,rfl⟩:=List.mem_map.1 hv;exact H5 (aE.1 h x hx)
theorem ec{b off:Nat}{l l' vs:List SV}{o:AObj}(hr:Rep Γ X w0 θ K h w)(hb:h.objs.get b=some o)(hs:cH l off vs=some l')(hv:SV.okL K vs)
 (ho:(∃e,o=.cells l e)\/(∃e k cv s,o=.row l e k cv s)):
 ∃(o':AObj) (w':World),(∀e,o=.cells l e->o'=.cells l' e)/\(∀e k cv s,o=.row l e k cv s->o'=.row l' e k cv s)/\(storeCells ⟨θ.blk b,off,none⟩ (concL θ vs) 0).run P w=.ok () w'/\Rep Γ X w0 θ K (h.upd b o') w':=by
 obtain⟨hKb,hXb,hok,ob,hw,hO⟩:=hr.obj b o hb;obtain⟨⟨hle,hl'⟩,hone⟩:=rA hs;have hlen:=sQ hs;rcases ho with⟨e,rfl⟩|⟨e,k,cv,s,rfl⟩
 .obtain⟨fr,rfl,hfr⟩:=hO;have hrun:=fW (P:=P) (off:=off) (concL θ vs) 0 (concL θ l) w hw (by simp only[bH,Nat.add_zero];exact hle) (by simpa using hfr) (vG hone);simp only[Nat.add_zero,bH]at hrun;rw[<-kn hs]at hrun;exact⟨.cells l' e,_,(λe1 he=>by cases he;rfl),(λe1 k1 cv1 s1 he=>by cases he),hrun,hr.turn (o':=.cells l' e) hb (n5 hs hok hv) ⟨fr,rfl,by rw[hlen];exact hfr⟩⟩
 .obtain⟨fr,ex,rfl,hfr,hsz⟩:=hO;have hrun:=fW (P:=P) (off:=off) (concL θ vs) 0 (concL θ l++ex) w hw (by simp only[bH,Nat.add_zero,ac];omega) (by simpa using hfr) (vG hone);simp only[Nat.add_zero,bH]at hrun;have he:(concL θ l++ex).take off++concL θ vs++(concL θ l++ex).drop (off+vs.length)=concL θ l'++ex:=by
   rw[kn hs,List.take_append_of_le_length (by simp only[bH];omega),List.drop_append_of_le_length (by simp only[bH];omega)];simp
  rw[he]at hrun;exact⟨.row l' e k cv s,_,(λe1 he=>by cases he),(λe1 k1 cv1 s1 he=>by cases he;rfl),hrun,hr.turn (o':=.row l' e k cv s) hb ⟨n5 hs hok.1 hv,hok.2⟩ ⟨fr,ex,rfl,by rw[hlen];exact hfr,by rw[hlen];exact hsz⟩⟩
theorem kz{t:TypeId}{p v:SV}{h':Hp}(hq:dA P h t p v=some h')(hr:Rep Γ X w0 θ K h w)(hv:v.ok K):
 ∃w',(Instr.storeAt t (conc θ p) (conc θ v)).run P w=.ok () w'/\Rep Γ X w0 θ K h' w':=by
 unfold dA at hq;split at hq
 .rename_i n b off hn;cases hbe:Nat.beq v.cells.length n with
  |false=>rw[hbe]at hq;cases hq
  |true=>
   rw[hbe]at hq;simp only[bf]at hq;have hsz:(conc θ v).cells.size=n:=by rw[du];simp[eq_of_beq hbe]
   have hcl:(conc θ v).cells.toList=concL θ v.cells:=by rw[du]
   split at hq
   .rename_i l e hb;rw[aa]at hq;obtain⟨l',hs,rfl⟩:=hq;obtain⟨o',w',ho',_,hrun,hrep⟩:=ec (P:=P) hr hb hs (eP hv) (.inl ⟨e,rfl⟩);rw[ho' e rfl]at hrep;refine⟨w',?_,hrep⟩;simp only[Instr.storeAt,conc,Instr.sureAddr,storeVar,ae,ah,Result.andThen,cq hn w,hsz,ne_eq,not_true_eq_false,if_false,hcl];exact hrun
   .rename_i l e k cv s hb;rw[aa]at hq;obtain⟨l',hs,rfl⟩:=hq;obtain⟨o',w',_,ho',hrun,hrep⟩:=ec (P:=P) hr hb hs (eP hv) (.inr ⟨e,k,cv,s,rfl⟩);rw[ho' e k cv s rfl]at hrep;refine⟨w',?_,hrep⟩;simp only[Instr.storeAt,conc,Instr.sureAddr,storeVar,ae,ah,Result.andThen,cq hn w,hsz,ne_eq,not_true_eq_false,if_false,hcl];exact hrun
   .cases hq
 .cases hq
theorem qf{l:List SV}{β:Nat}(hv:SV.okL K l):SV.okL (hJ K β) l:=fL bW l hv
theorem lK(n:Nat):frOk (0,0) n:=.inl rfl
theorem fE{l:List SV}{e:TypeId}(hr:Rep Γ X w0 θ K h w)(hl:SV.okL K l):
 Rep Γ X w0 (θ.bind h.next w.heap.size 0) (hJ K h.next) ⟨h.objs.set h.next (.cells l e),h.next+1⟩ (w.alloc (.cells (concL θ l).toArray e)):=
 hr.make_next rfl rfl rfl rfl (qf hl) ⟨(0,0),by rw[eV (Ren.bind_ext (hr.next _ (av _))) l hl],lK _⟩
theorem rO(z:List SV)(n:Nat):(di z n).length=n*z.length:=by
 induction n with
 |zero=>simp[di]
 |succ n ih=>rw[di,ac,ih,Nat.succ_mul,Nat.add_comm]
theorem wO(z:List SV):∀(n i:Nat),i<n*z.length->(di z n)[i]? =z[i%z.length]? :=by
 intro n
 induction n with
 |zero=>intro i h;simp at h
 |succ n ih=>
  intro i h;rw[di];by_cases hi:i<z.length
  .rw[aU hi,Nat.mod_eq_of_lt hi]
  .rw[List.getElem?_append_right bj,ih (i-z.length) (by rw[Nat.succ_mul]at h;omega)];rw[<-Nat.mod_eq_sub_mod (a:=i) (b:=z.length) bj]
theorem kp{z:List SV}(hz:SV.okL K z):∀n,SV.okL K (di z n)
 |0=>trivial
 |n+1=>dn hz (kp hz n)
theorem qS(z:Value)(n m:Nat)(hm:m=n*z.cells.size):
 ((Array.range m).map λi=>z.cells[i%z.cells.size]!)=(concL θ (di (SV.cells (.lit z)) n)).toArray:=by
 have hc:z.cells=(concL θ (SV.cells (.lit z))).toArray:=du θ (.lit z);have hlen:(SV.cells (.lit z)).length=z.cells.size:=by rw[hc];simp
 apply Array.ext
 .simp[rO,hlen,hm]
 .intro i h1 h2;have hi:i<n*(SV.cells (.lit z)).length:=by rw[hlen,<-hm];simpa using h1
  have hpos:0<(SV.cells (.lit z)).length:=by
   rcases Nat.eq_zero_or_pos (SV.cells (.lit z)).length with h0|h0
   .rw[h0]at hi;simp at hi
   .exact h0
  have hmod:i%(SV.cells (.lit z)).length<(SV.cells (.lit z)).length:=Nat.mod_lt _ hpos;have hg:=wO (SV.cells (.lit z)) n i hi;have h2':i<(concL θ (di (SV.cells (.lit z)) n)).length:=by simpa using h2
  have e1:(concL θ (di (SV.cells (.lit z)) n))[i]? =(concL θ (SV.cells (.lit z)))[i%(SV.cells (.lit z)).length]? :=by
   rw[ez,ez,hg]
  have hmod':i%z.cells.size<z.cells.size:=by rw[<-hlen];exact hmod
  simp only[Array.getElem_map,Array.getElem_range,List.getElem_toArray];rw[getElem!_pos z.cells (i%z.cells.size) hmod'];have e2:z.cells[i%z.cells.size]? =(concL θ (SV.cells (.lit z)))[i%(SV.cells (.lit z)).length]? :=by
   rw[hlen]
   conv=>lhs;rw[hc]
   simp[hlen]
  rw[<-e1,aB h2',Array.getElem?_eq_getElem hmod']at e2;exact ab e2
theorem pj{e:TypeId}{z:Value}(hz:dB P e=some z)(w:World):
 (Instr.alloc e true (.tuple #[])).run P w=.ok (.pointer (some ⟨w.heap.size,0,none⟩)) (w.alloc (.cells z.cells e)):=by
 simp only[Instr.alloc,ae,dj hz w,Result.andThen,newVar,newRow,run_newObj,ah,World.alloc_eq]
theorem nK{t:TypeId}{len:Nat}{parts:List (Nat×SV)}{r:SV×Hp}(hq:ge P h t len parts=some r)(hr:Rep Γ X w0 θ K h w)(hp:∀p∈parts,p.2.ok K):
 ∃θ' K' w',Ext K θ θ'/\(∀i,K i->K' i)/\(∀i,K' i->K i\/h.next<=i)/\(Instr.buildSlice t len (parts.map λp=>(p.1,conc θ p.2)).toArray).run P w=.ok (conc θ' r.1) w'/\r.1.ok K'/\Rep Γ X w0 θ' K' r.2 w':=by
 unfold ge at hq;split at hq
 .rename_i e hu;split at hq
  .rename_i size z hs hz;cases hc:Nat.ble (len*size) 16777216&&Nat.beq (SV.cells (.lit z)).length size with
   |false=>rw[hc]at hq;cases hq
   |true=>
    rw[hc]at hq;rw[a8]at hc;have hle:=dy hc.1;have hsz:z.cells.size=size:=by rw[<-eq_of_beq hc.2];have:=du θ (.lit z);simp only[conc]at this;rw[this];simp
    simp only[bf]at hq;split at hq
    .rename_i l hf;simp only[a7]at hq;subst hq;have hnk:=hr.next h.next (av _);have hnot:¬(len*size>2^24):=by omega
     by_cases h0:len*size=0
     .rw[fl h0]at hf;have hlok:=nw (K:=K) parts hf trivial hp;have hfs:=ji (θ:=θ) parts hf;refine⟨_,_,_,Ren.bind_ext hnk,bW,cT,?_,.inr rfl,fE hr hlok⟩;have hfs':Instr.fill (λi=>some (i*size,size)) #[] (parts.map λp=>(p.1,conc θ p.2))=some (concL θ l).toArray:=hfs;have hr0:∀f:Nat->Value,Array.map f (Array.range 0)=#[]:=λf=>by simp
      simp only[Instr.buildSlice,ae,be hu w,Result.andThen,cq hs w,h0,Nat.not_lt_zero,gt_iff_lt,if_false,if_true,ah,hr0,hfs',newRow,run_newObj,World.alloc_eq,Hp.new,conc,Ren.bind_blk]
     .rw[fH h0]at hf;have hlok:=nw (K:=K) parts hf (kp (eP (v:=.lit z) trivial) len) hp;have hfs:=ji (θ:=θ) parts hf;refine⟨_,_,_,Ren.bind_ext hnk,bW,cT,?_,.inr rfl,fE hr hlok⟩;have hze:=qS (θ:=θ) z len (len*size) (by rw[hsz]);simp only[bg]at hfs;simp only[Instr.buildSlice,ae,be hu w,Result.andThen,cq hs w,hnot,if_false,h0,dj hz w,ah,hze,hfs,newRow,run_newObj,World.alloc_eq,Hp.new,conc,Ren.bind_blk]
    .cases hq
  .cases hq
 .cases hq
end
section
variable {P:Program}{Γ:Env}{X:Nat->Prop}{w0:World}{θ:Ren}{K:Nat->Prop}{h:Hp}{w:World}
theorem wrap_small{n:Nat}(hn:n<=1048576):IntKind.i64.wrap (n:Int)=(n:Int):=by
 have h1:(n:Int)%2^64=(n:Int):=Int.emod_eq_of_lt bj bj;have h2:¬((n:Int)≥2^(64-1)):=by omega
 simp only[IntKind.wrap,IntKind.signed,IntKind.bits,h1,h2,decide_false,Bool.and_false,aA,if_false]
theorem oL{t:TypeId}{l c:SV}{r:SV×Hp}(hq:ff P h t l c=some r)(hr:Rep Γ X w0 θ K h w):
 ∃θ' K' w',Ext K θ θ'/\(∀i,K i->K' i)/\(∀i,K' i->K i\/h.next<=i)/\(Instr.makeSlice t (conc θ l) (conc θ c)).run P w=.ok (conc θ' r.1) w'/\r.1.ok K'/\Rep Γ X w0 θ' K' r.2 w':=by
 unfold ff at hq;split at hq
 .rename_i e k1 l k2 c hu;split at hq
  .rename_i i hi;split at hq
   .rename_i z hz;cases hc:Nat.ble l c&&Nat.ble (i.bytes*c) 1048576&&Nat.ble c 1048576&&Nat.beq (SV.cells (.lit z)).length i.size with
    |false=>rw[hc]at hq;cases hq
    |true=>
     rw[hc]at hq;simp only[a8]at hc;obtain⟨⟨⟨c1,c2⟩,c3⟩,c4⟩:=hc;have d1:=dy c1;have d2:=dy c2;have d3:=dy c3;have hsz:z.cells.size=i.size:=by rw[<-eq_of_beq c4];have:=du θ (.lit z);simp only[conc]at this;rw[this];simp
     simp only[bf,a7]at hq;have hnk:=hr.next h.next (av _);have hzero:dB P e=some z:=by simp only[dB,hi,ay,hz]
     have hsize:bI P e=some i.size:=by simp only[bI,hi,af]
     have w1:IntKind.i64.wrap (l:Int)=(l:Int):=wrap_small bj;have w2:IntKind.i64.wrap (c:Int)=(c:Int):=wrap_small d3;have t1:((decide ((c:Int)<0)||decide ((i.bytes:Int)*(c:Int)>2^48))||decide ((l:Int)<0)||decide ((l:Int)>(c:Int)))=false:=by
      have:((i.bytes*c:Nat):Int)=(i.bytes:Int)*(c:Int):=by simp
      simp only[Bool.or_eq_false_iff,decide_eq_false_iff_not];refine⟨⟨⟨by omega,by rw[<-this];omega⟩,by omega⟩,by omega⟩
     subst hq;by_cases h0:c*i.size=0
     .rw[fl h0];refine⟨_,_,_,Ren.bind_ext hnk,bW,cT,?_,.inr rfl,fE (l:=[]) hr trivial⟩;have hr0:∀f:Nat->Value,Array.map f (Array.range 0)=#[]:=λf=>by simp
      simp only[Instr.makeSlice,conc,ae,be hu w,Result.andThen,asInt,asIntOf,ah,iY hi w,Int.ofNat_eq_natCast,w1,w2,t1,aA,if_false,run_askRoom,cq hsize w,Int.toNat_natCast,h0,if_true,hr0,newRow,run_newObj,World.alloc_eq,Hp.new,Ren.bind_blk];rfl
     .rw[fH h0];refine⟨_,_,_,Ren.bind_ext hnk,bW,cT,?_,.inr rfl,fE hr (kp (eP (v:=.lit z) trivial) c)⟩;have hze:=qS (θ:=θ) z c (c*i.size) (by rw[hsz]);simp only[Instr.makeSlice,conc,ae,be hu w,Result.andThen,asInt,asIntOf,ah,iY hi w,Int.ofNat_eq_natCast,w1,w2,t1,aA,if_false,run_askRoom,cq hsize w,Int.toNat_natCast,h0,dj hzero w,hze,newRow,run_newObj,World.alloc_eq,Hp.new,Ren.bind_blk];rfl
   .cases hq
  .cases hq
 .cases hq
theorem qW(hr:Rep Γ X w0 θ K h w):Rep Γ X w0 (θ.bind h.next w.heap.size 0) (hJ K h.next) ⟨h.objs.set h.next (.map [] 0),h.next+1⟩ (w.alloc (.map #[] 0)):=
 hr.make_next rfl rfl rfl rfl (λe he=>by cases he) rfl
theorem Rep.map{b:Nat}{es:List (SV×SV×Nat)}{c:Nat}(hr:Rep Γ X w0 θ K h w)(hb:h.objs.get b=some (.map es c)):(getObj (θ.blk b)).run P w=.ok (.map (es.map (cg θ)).toArray c) w/\
 (∀ob,(setObj (θ.blk b) ob).run P w=.ok () (ef w (θ.blk b) ob)):=by
 obtain⟨_,_,_,ob,hw,hO⟩:=hr.obj b _ hb;refine⟨mv (by exact⟨ob,hw,hO⟩),λob'=>?_⟩;simp only[ORep]at hO;subst hO;simp only[setObj,Sem.run,hw];rfl
theorem uE(es:List (SV×SV×Nat)):∀(i:Nat) (k v:SV),(dw es i k v).map (cg θ)=(es.map (cg θ)).modify i λe=>{e with key:=conc θ k,val:=conc θ v}:=by
 induction es with
 |nil=>intro i k v;simp[dw]
 |cons e es ih=>
  intro i k v;obtain⟨k',u,c⟩:=e;cases i with
  |zero=>simp[dw,cg]
  |succ i=>simp[dw,ih]
theorem wg(es:List (SV×SV×Nat)):∀(i:Nat) (k v:SV),∀e∈dw es i k v,(e.1=k/\e.2.1=v)\/e∈es:=by
 induction es with
 |nil=>intro i k v e he;cases he
 |cons e es ih=>
  intro i k v e' he;obtain⟨k',u,c⟩:=e;cases i with
  |zero=>
   simp only[dw,aD]at he;rcases he with rfl|he
   .exact .inl ⟨rfl,rfl⟩
   .exact .inr (am _ he)
  |succ i=>
   simp only[dw,aD]at he;rcases he with rfl|he
   .exact .inr (ak ..)
   .rcases ih i k v e' he with h|h
    .exact .inl h
    .exact .inr (am _ h)
theorem j9{t:TypeId}{m k v:SV}{h':Hp}(hq:fY P h t m k v=some h')(hr:Rep Γ X w0 θ K h w)(hk:k.ok K)(hv:v.ok K):
 ∃w',(Instr.mapUpdate t (conc θ m) (conc θ k) (conc θ v)).run P w=.ok () w'/\Rep Γ X w0 θ K h' w':=by
 unfold fY at hq;split at hq
 .rename_i kt et b kv hu hkv;have hkc:=cW θ _ _ hkv;split at hq
  .rename_i es c hb;obtain⟨hg,hs⟩:=hr.map (P:=P) hb;have hok:=hr.okAll b _ hb;split at hq
   .rename_i i v' hck hfd;split at hq
    .rename_i old hold;cases hsb:Instr.sameBits 10000 old kv with
     |false=>rw[hsb]at hq;cases hq
     |true=>
      rw[hsb]at hq;simp only[bf,a7]at hq;subst hq;obtain⟨d,hd⟩:=eU hck;have hfk:=gL (θ:=θ) (w:=w) hd hfd;simp only[aJ]at hold;obtain⟨e,he,hel⟩:=hold;have hek:=cW θ _ _ hel;refine⟨ef w (θ.blk b) (.map ((dw es i k v).map (cg θ)).toArray c),?_,hr.turn (o':=.map (dw es i k v) c) hb (λe' he'=>?_) rfl⟩
      .have hget:(((es.map (cg θ)).toArray[i]?).map (·.key)).getD kv=old:=by
        rw[aP,aV,he];exact hek
       have hmod:(es.map (cg θ)).toArray.modify i (λe=>{e with key:=kv,val:=conc θ v})=((dw es i k v).map (cg θ)).toArray:=by
        rw[uE,hkc,<-aN];simp
       simp only[Instr.mapUpdate,conc,ae,be hu w,Result.andThen,hg,hkc,bM _ _ hck w,hfk,af,hget,Instr.keyThatStays,hsb,if_true,ah,hmod,hs]
      .rcases wg es i k v e' he' with⟨rfl,rfl⟩|hm
       .exact⟨hk,hv⟩
       .exact hok e' hm
    .cases hq
   .rename_i hck hfd;simp only[a7]at hq;subst hq;obtain⟨d,hd⟩:=eU hck;have hfk:=gL (θ:=θ) (w:=w) hd hfd;refine⟨ef w (θ.blk b) (.map ((es++[(k,v,c)]).map (cg θ)).toArray (c+1)),?_,hr.turn (o':=.map (es++[(k,v,c)]) (c+1)) hb (λe' he'=>?_) rfl⟩
    .have hp:(es.map (cg θ)).toArray.push ⟨kv,conc θ v,c⟩=((es++[(k,v,c)]).map (cg θ)).toArray:=by
      rw[<-aN];simp[cg,hkc]
     simp only[Instr.mapUpdate,conc,ae,be hu w,Result.andThen,hg,hkc,bM _ _ hck w,hfk,Option.map_none,hp,hs]
    .rcases List.mem_append.1 he' with hm|hm
     .exact hok e' hm
     .rw[List.mem_singleton.1 hm];exact⟨hk,hv⟩
   .cases hq
  .cases hq
 .cases hq
theorem map_eraseIdx{α β:Type}(f:α->β):∀(l:List α) (i:Nat),(l.map f).eraseIdx i=(l.eraseIdx i).map f
 |[],_=>rfl
 |_::_,0=>rfl
 |a::l,i+1=>by simp only[ax,List.eraseIdx_cons_succ,map_eraseIdx f l i]
theorem sP{tys:Array TypeId}{ty t:TypeId}{args:Array Value}{m k:SV}{h':Hp}(hq:pR P h t m k=some h')(hr:Rep Γ X w0 θ K h w)
 (ht:tys[0]? =some t) (ha:args[0]? =some (conc θ m)) (hb':args[1]? =some (conc θ k)):
 ∃w',(Builtin.delete_ tys ty args).run P w=.ok (.tuple #[]) w'/\Rep Γ X w0 θ K h' w':=by
 unfold pR at hq;split at hq
 .rename_i kt et kv hu hkv;have hkc:=cW θ _ _ hkv;split at hq
  .rename_i hck;simp only[a7]at hq;subst hq;exact⟨w,by simp only[Builtin.delete_,ht,ha,hb',conc,ae,be hu w,Result.andThen,hkc,bM _ _ hck w,ah],hr⟩
  .cases hq
 .rename_i kt et b kv hu hkv;have hkc:=cW θ _ _ hkv;split at hq
  .rename_i es c hb;obtain⟨hg,hs⟩:=hr.map (P:=P) hb;have hok:=hr.okAll b _ hb;have hemp:(es.map (cg θ)).toArray.isEmpty=es.isEmpty:=by cases es<;>rfl
   split at hq
   .rename_i i v' hck hfd;simp only[a7]at hq;subst hq;obtain⟨d,hd⟩:=eU hck;have hfk:=gL (θ:=θ) (w:=w) hd hfd;refine⟨ef w (θ.blk b) (.map ((es.eraseIdx i).map (cg θ)).toArray c),?_,hr.turn (o':=.map (es.eraseIdx i) c) hb (λe' he'=>hok e' (List.mem_of_mem_eraseIdx he')) rfl⟩;have he:(es.map (cg θ)).toArray.eraseIdxIfInBounds i=((es.eraseIdx i).map (cg θ)).toArray:=by
     rw[<-aN];simp[map_eraseIdx]
    simp only[Builtin.delete_,ht,ha,hb',conc,ae,be hu w,Result.andThen,hg,hkc,hemp,bM _ _ hck w,hfk,af,he,hs,ah]
   .rename_i hck hfd;simp only[a7]at hq;subst hq;obtain⟨d,hd⟩:=eU hck;have hfk:=gL (θ:=θ) (w:=w) hd hfd;refine⟨ef w (θ.blk b) (.map (es.map (cg θ)).toArray c),?_,hr.turn (o':=.map es c) hb hok rfl⟩;simp only[Builtin.delete_,ht,ha,hb',conc,ae,be hu w,Result.andThen,hg,hkc,hemp,bM _ _ hck w,hfk,Option.map_none,hs,ah]
   .cases hq
  .cases hq
 .cases hq
theorem o9{tys:Array TypeId}{ty t e:TypeId}{args:Array Value}{b off n c:Nat}{z:Value}{h':Hp}(hr:Rep Γ X w0 θ K h w)(hu:tyU P t=some (.slice e))(hz:dB P e=some z)(hn:n≠0)
 (ht:tys[0]? =some t) (ha:args[0]? =some (.slice (some ⟨θ.blk b,off,none⟩) n c))
 (hq:(match h.objs.get b with
  |some (.cells l e')=>(cH l off (di (SV.cells (.lit z)) n)).map λl'=>h.upd b (.cells l' e')
  |some (.row l e' k cv s)=>(cH l off (di (SV.cells (.lit z)) n)).map λl'=>h.upd b (.row l' e' k cv s)
  |_=>none)=some h'):
 ∃w',(Builtin.clear_ tys ty args).run P w=.ok (.tuple #[]) w'/\Rep Γ X w0 θ K h' w':=by
 have hz':(Builtin.zeroCells z.cells n).toList=concL θ (di (SV.cells (.lit z)) n):=by
  have:=qS (θ:=θ) z n (n*z.cells.size) rfl;unfold Builtin.zeroCells;rw[this]
 have hrok:SV.okL K (di (SV.cells (.lit z)) n):=kp (eP (v:=.lit z) trivial) n;obtain⟨n',rfl⟩:∃n',n=n'+1:=⟨n-1,by omega⟩;split at hq
 .rename_i l e' hb;rw[aa]at hq;obtain⟨l',hs,rfl⟩:=hq;obtain⟨o',w',ho',_,hrun,hrep⟩:=ec (P:=P) hr hb hs hrok (.inl ⟨e',rfl⟩);rw[ho' e' rfl]at hrep;refine⟨w',?_,hrep⟩;simp only[Builtin.clear_,ht,ha,ae,be hu w,Result.andThen,dj hz w,hz',hrun,ah]
 .rename_i l e' k cv s hb;rw[aa]at hq;obtain⟨l',hs,rfl⟩:=hq;obtain⟨o',w',_,ho',hrun,hrep⟩:=ec (P:=P) hr hb hs hrok (.inr ⟨e',k,cv,s,rfl⟩);rw[ho' e' k cv s rfl]at hrep;refine⟨w',?_,hrep⟩;simp only[Builtin.clear_,ht,ha,ae,be hu w,Result.andThen,dj hz w,hz',hrun,ah]
 .cases hq
theorem ww{tys:Array TypeId}{ty t:TypeId}{args:Array Value}{x:SV}{h':Hp}(hq:uG P h t x=some h')(hr:Rep Γ X w0 θ K h w)(ht:tys[0]? =some t)(ha:args[0]? =some (conc θ x)):
 ∃w',(Builtin.clear_ tys ty args).run P w=.ok (.tuple #[]) w'/\Rep Γ X w0 θ K h' w':=by
 unfold uG at hq;split at hq
 .rename_i e a c hu;simp only[a7]at hq;subst hq;exact⟨w,by simp only[Builtin.clear_,ht,ha,conc,ae,be hu w,Result.andThen,ah],hr⟩
 .rename_i e b off n c hu;split at hq
  .rename_i hn;have:=eq_of_beq hn;subst this;simp only[a7]at hq;subst hq;exact⟨w,by simp only[Builtin.clear_,ht,ha,conc,ae,be hu w,Result.andThen,ah],hr⟩
  .rename_i z hz hn;exact o9 hr hu hz (ej hn) ht ha hq
  .cases hq
 .rename_i e b off n k cv hu;split at hq
  .rename_i hn;have:=eq_of_beq hn;subst this;simp only[a7]at hq;subst hq;exact⟨w,by simp only[Builtin.clear_,ht,ha,conc,ae,be hu w,Result.andThen,ah],hr⟩
  .rename_i z hz hn;exact o9 hr hu hz (ej hn) ht ha hq
  .cases hq
 .cases hq
theorem uV{t:TypeId}{x:SV}{r:SV×Hp}(hq:jE P h t x=some r)(hr:Rep Γ X w0 θ K h w):
 ∃θ' K' w',Ext K θ θ'/\(∀i,K i->K' i)/\(∀i,K' i->K i\/h.next<=i)/\(Instr.range t (conc θ x)).run P w=.ok (conc θ' r.1) w'/\r.1.ok K'/\Rep Γ X w0 θ' K' r.2 w':=by
 have hnk:=hr.next h.next (av _);unfold jE at hq;split at hq
 .rename_i s hu;simp only[a7]at hq;subst hq;refine⟨_,_,_,Ren.bind_ext (n:=w.heap.size) (c:=0) hnk,bW,cT,?_,.inr rfl,hr.make_next (w':=w.alloc (.stringIter s 0)) (ob:=.stringIter s 0) rfl rfl rfl rfl trivial rfl⟩;simp only[Instr.range,conc,ae,be hu w,Result.andThen,ah,run_newObj,World.alloc_eq,Hp.new,Ren.bind_blk]
 .rename_i k e hu;simp only[a7]at hq;subst hq;refine⟨_,_,_,Ren.bind_ext (n:=w.heap.size) (c:=0) hnk,bW,cT,?_,.inr rfl,hr.make_next (w':=w.alloc (.mapIter none 0 #[] 0)) (ob:=.mapIter none 0 #[] 0) rfl rfl rfl rfl (λb hb=>by cases hb) rfl⟩;simp only[Instr.range,conc,ae,be hu w,Result.andThen,ah,run_newObj,World.alloc_eq,Hp.new,Ren.bind_blk]
 .rename_i k e b hu;split at hq
  .rename_i es c hb;simp only[a7]at hq;subst hq;obtain⟨hg,_⟩:=hr.map (P:=P) hb;have hKb:=(hr.obj b _ hb).1;refine⟨_,_,_,Ren.bind_ext (n:=w.heap.size) (c:=0) hnk,bW,cT,?_,.inr rfl,hr.make_next (w':=w.alloc (.mapIter (some (θ.blk b)) c #[] c)) (ob:=.mapIter (some (θ.blk b)) c #[] c) rfl rfl rfl rfl (λb' hb'=>by cases hb';exact .inl hKb) ?_⟩
   .simp only[Instr.range,conc,ae,be hu w,Result.andThen,hg,ah,run_newObj,World.alloc_eq,Hp.new,Ren.bind_blk]
   .simp only[ORep,af,(Ren.bind_ext (n:=w.heap.size) (c:=0) hnk).blk b hKb]
  .cases hq
 .cases hq
theorem Rep.other{b:Nat}{o:AObj}(hr:Rep Γ X w0 θ K h w)(hb:h.objs.get b=some o){ob:Obj}(hw:w.heap[θ.blk b]? =some ob)(hc:∀c e f,ob≠.cells c e f):
 (getObj (θ.blk b)).run P w=.ok ob w/\∀ob',(setObj (θ.blk b) ob').run P w=.ok () (ef w (θ.blk b) ob'):=by
 have _:=hr.obj b o hb;constructor
 .cases ob<;>first|(exact absurd rfl (hc _ _ _))|(simp only[getObj,Sem.run,hw])
 .intro ob';cases ob<;>first|(exact absurd rfl (hc _ _ _))|(simp only[setObj,Sem.run,hw];rfl)
theorem yO{it:SV}{isS:Bool}{ty:TypeId}{outs:List (SV×Hp)}(hq:kE h it isS=some outs)(hr:Rep Γ X w0 θ K h w):
 ∃r∈outs,∃w',(Instr.next (conc θ it) isS ty).run P w=.ok (conc θ r.1) w'/\r.1.ok K/\Rep Γ X w0 θ K r.2 w':=by
 unfold kE at hq;split at hq
 .rename_i b;split at hq
  .rename_i s pos hb;obtain⟨_,_,_,ob,hw,hO⟩:=hr.obj b _ hb;simp only[ORep]at hO;subst hO;obtain⟨hg,hs⟩:=hr.other (P:=P) hb hw (λ_ _ _ he=>by cases he);cases hlt:Nat.blt pos s.size with
   |true=>
    rw[hlt]at hq;have hp:=ca hlt;simp only[bf,a7]at hq;subst hq;refine⟨_,List.mem_singleton.2 rfl,_,?_,⟨trivial,trivial,trivial,trivial⟩,hr.turn (o':=.strIter s (pos+(Utf8.decode s pos).2)) (ob':=.stringIter s (pos+(Utf8.decode s pos).2)) hb trivial rfl⟩;simp only[Instr.next,conc,ae,hg,Result.andThen,hp,if_true,hs,ah];rfl
   |false=>
    rw[hlt]at hq;have hp:¬pos<s.size:=λhp=>by
     have:Nat.blt pos s.size=true:=ai hp;rw[this]at hlt;cases hlt
    simp only[bg,a7]at hq;subst hq;refine⟨_,List.mem_singleton.2 rfl,w,?_,⟨trivial,trivial⟩,hr⟩;simp only[Instr.next,conc,ae,hg,Result.andThen,hp,if_false,ah];rfl
  .cases hq
 .rename_i b;split at hq
  .rename_i s1 s2 s3 hb;obtain⟨_,_,_,ob,hw,hO⟩:=hr.obj b _ hb;simp only[ORep]at hO;subst hO;obtain⟨hg,_⟩:=hr.other (P:=P) hb hw (λ_ _ _ he=>by cases he);simp only[a7]at hq;subst hq;refine⟨_,List.mem_singleton.2 rfl,w,?_,⟨trivial,trivial⟩,hr⟩;simp only[Instr.next,conc,ae,hg,Option.map_none,Result.andThen,ah];rfl
  .rename_i m since seen last hb;split at hq
   .rename_i es clock hm;obtain⟨_,_,hbok,ob,hw,hO⟩:=hr.obj b _ hb;simp only[ORep,af]at hO;subst hO;obtain⟨hg,hs⟩:=hr.other (P:=P) hb hw (λ_ _ _ he=>by cases he);obtain⟨hgm,_⟩:=hr.map (P:=P) hm;have hmok:=hr.okAll m _ hm;have hc1:(!seen.toArray.isEmpty&& !(es.map (cg θ)).toArray.isEmpty&&(es.map (cg θ)).toArray.all (λe=>decide (e.born≥last)))=(!seen.isEmpty&& !es.isEmpty&&es.all λe=>Nat.ble last e.2.2):=by
     have a1:seen.toArray.isEmpty=seen.isEmpty:=by cases seen<;>rfl
     have a2:(es.map (cg θ)).toArray.isEmpty=es.isEmpty:=by cases es<;>rfl
     have a3:(es.map (cg θ)).toArray.all (λe=>decide (e.born≥last))=es.all λe=>Nat.ble last e.2.2:=by
      rw[List.all_toArray,List.all_map];congr 1;funext e;show decide (e.2.2≥last)=Nat.ble last e.2.2;cases hle:Nat.ble last e.2.2 with
      |true=>exact bd (dy hle)
      |false=>exact bc λhge=>by rw[ai hge]at hle;cases hle
     rw[a1,a2,a3]
    cases hcc:(!seen.isEmpty&& !es.isEmpty&&es.all λe=>Nat.ble last e.2.2)with
    |true=>rw[hcc]at hq;cases hq
    |false=>
     rw[hcc]at hq;rw[hcc]at hc1;simp only[bg]at hq;cases hall:es.all λe=>Nat.blt e.2.2 since with
     |false=>rw[hall]at hq;cases hq
     |true=>
      rw[hall]at hq;simp only[bf]at hq;have hborn:∀e∈es,e.2.2<since:=λe he=>ca (aE.1 hall e he);have hleft:(es.map (cg θ)).toArray.filter (λe=> !seen.toArray.contains e.born)=((leftOf es seen).map (cg θ)).toArray:=by
       rw[<-aN];simp only[Array.toList_filter,leftOf,List.filter_map];congr 2;funext e;simp[Function.comp,cg]
      have hold:((leftOf es seen).map (cg θ)).toArray.filter (λe=>decide (e.born<since))=((leftOf es seen).map (cg θ)).toArray:=by
       rw[<-aN];simp only[Array.toList_filter];rw[List.filter_eq_self];intro e he;obtain⟨x,hx,rfl⟩:=List.mem_map.1 he;exact bd (hborn x (List.mem_filter.1 hx).1)
      have hnew:((leftOf es seen).map (cg θ)).toArray.filter (λe=>decide (e.born≥since))=#[]:=by
       rw[<-aN];simp only[Array.toList_filter];rw[List.filter_eq_nil_iff];intro e he;obtain⟨x,hx,rfl⟩:=List.mem_map.1 he;have:=hborn x (List.mem_filter.1 hx).1;intro hd;have hge:(cg θ x).born≥since:=of_decide_eq_true hd;have:x.2.2≥since:=hge;omega
      cases hL:leftOf es seen with
      |nil=>
       rw[hL]at hq hleft hold hnew;simp only[a7]at hq;subst hq;refine⟨_,List.mem_singleton.2 rfl,w,?_,⟨trivial,trivial⟩,hr⟩;simp only[Instr.next,conc,ae,hg,Result.andThen,hgm,hc1,aA,if_false,hleft,aY];simp[Question.forced];rfl
      |cons e0 rest=>
       rw[hL]at hq hleft hold hnew;simp only[a7]at hq;subst hq;have hcand:((if((e0::rest).map (cg θ)).toArray.isEmpty then(#[none]:Array (Option MapEntry))else#[])++(((e0::rest).map (cg θ)).toArray++#[]).map some)=((e0::rest).map λe=>some (cg θ e)).toArray:=by
        rw[<-aN];simp[Function.comp]
       have hpick:∃(k:Nat) (w1:World),(choose (.mapNext ((e0::rest).map λe=>some (cg θ e)).toArray.size)).run P w=.ok k w1/\k<(e0::rest).length/\w1.os=w.os/\w1.tape=w.tape/\w1.output=w.output/\w1.heap=w.heap:=by
        simp only[run_choose];split
        .exact⟨0,w,rfl,by simp,rfl,rfl,rfl,rfl⟩
        .refine⟨_,_,rfl,?_,rfl,rfl,rfl,rfl⟩;simp only[Question.cut,List.size_toArray,ao];exact Nat.mod_lt _ (by simp)
       obtain⟨k,w1,hch,hk,g1,g2,g3,g4⟩:=hpick;have hr1:Rep Γ X w0 θ K h w1:=hr.same g1 g2 g3 g4;have hw1:w1.heap[θ.blk b]? =some (.mapIter (some (θ.blk m)) since seen.toArray last):=by rw[g4];exact hw
       obtain⟨_,hs1⟩:=hr1.other (P:=P) hb hw1 (λ_ _ _ he=>by cases he);have hek:(e0::rest)[k]? =some (e0::rest)[k]:=aB hk;have hmem:(e0::rest)[k]∈e0::rest:=List.getElem_mem hk;have hin:(e0::rest)[k]∈es:=(List.mem_filter.1 (show(e0::rest)[k]∈leftOf es seen by rw[hL];exact hmem)).1;have hcg:(((e0::rest).map λe=>some (cg θ e)).toArray)[k]? =some (some (cg θ (e0::rest)[k])):=by
        rw[aP,aV,hek];rfl
       generalize(e0::rest)[k]=e at*;refine⟨_,List.mem_map.2 ⟨e,hmem,rfl⟩,_,?_,⟨trivial,(hmok e hin).1,(hmok e hin).2,trivial⟩,hr1.turn (o':=.mapIter (some m) since (seen++[e.2.2]) clock) (ob':=.mapIter (some (θ.blk m)) since (seen++[e.2.2]).toArray clock) hb hbok rfl⟩;simp only[Instr.next,conc,ae,hg,Result.andThen,hgm,hc1,aA,if_false,hleft,hold,hnew,hcand,hch,hcg];have hpush:seen.toArray.push (cg θ e).born=(seen++[e.2.2]).toArray:=by simp[cg]
       simp only[hpush,hs1,ah];rfl
   .cases hq
  .cases hq
 .cases hq
end
end Go.Proofs.YtbhokokpplmigaaGreatDoor.Ev
