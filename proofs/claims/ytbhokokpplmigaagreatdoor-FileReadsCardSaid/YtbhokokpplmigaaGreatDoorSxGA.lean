/-
  A part of the proof of FileReads; no condition.
-/
import Derived.Test.YtbhokokpplmigaaGreatDoorEvGC
set_option linter.all false
namespace Go.Proofs.YtbhokokpplmigaaGreatDoor.Sx
open Go Go.Proofs.YtbhokokpplmigaaGreatDoor.Ev
def fg(f:Func):Code:=match f.body with
 |some c=>c
 |none=>.skip
theorem _root_.Go.Proofs.YtbhokokpplmigaaGreatDoor.Ev.Kept.then {a b c:Hp}(h:Kept a.next a b)(h':Kept b.next b c):Kept a.next a c:=h.trans (h'.less h.next)
theorem zU{a b:Int}:(a==b)=decide (a=b):=by by_cases h:a=b<;>simp[h]
def lo:IntKind->Int
 | .i8=> -128| .i16=> -32768| .i32=> -2147483648| .i64=> -9223372036854775808|_=>0
def hi:IntKind->Int
 | .i8=>128| .i16=>32768| .i32=>2147483648| .i64=>9223372036854775808| .u8=>256| .u16=>65536| .u32=>4294967296| .u64=>18446744073709551616
theorem jp{z m:Int}(h1: -m<=z)(h2:z<m):(if(true&&decide (z%(2*m)≥m))=true then z%(2*m)-2*m else z%(2*m))=z:=by
 by_cases hz:0<=z
 .rw[Int.emod_eq_of_lt hz bj];simp[show ¬(z≥m) by omega]
 .have e:z%(2*m)=z+2*m:=by
   rw[<-Int.add_emod_right,Int.emod_eq_of_lt bj bj]
  rw[e];simp[show z+2*m≥m by omega]
theorem Cj(k:IntKind){z:Int}(h1:lo k<=z)(h2:z<hi k):k.wrap z=z:=by
 cases k
 case i8=>exact jp (m:=128) h1 h2
 case i16=>exact jp (m:=32768) h1 h2
 case i32=>exact jp (m:=2147483648) h1 h2
 case i64=>exact jp (m:=9223372036854775808) h1 h2
 case u8=>exact Int.emod_eq_of_lt h1 h2
 case u16=>exact Int.emod_eq_of_lt h1 h2
 case u32=>exact Int.emod_eq_of_lt h1 h2
 case u64=>exact Int.emod_eq_of_lt h1 h2
theorem iI(l:bn):(⟨⟨l⟩⟩:ByteArray).toList=l:=by
 have h:∀(k:Nat) (i:Nat) (r:bn),l.length-i=k->ByteArray.toList.loop ⟨⟨l⟩⟩ i r=r.reverse++l.drop i:=by
  intro k
  induction k with
  |zero=>
   intro i r hk;rw[ByteArray.toList.loop,bh (by show ¬i<l.length;omega),List.drop_eq_nil_of_le bj,List.append_nil]
  |succ k ih=>
   intro i r hk;rw[ByteArray.toList.loop,bi (by show i<l.length;omega),ih (i+1) _ bj];have hi:i<l.length:=by omega
   have e:(⟨⟨l⟩⟩:ByteArray).get! i=l[i]:=by
    show(Array.mk l)[i]! =l[i];simp[hi]
   rw[e,List.reverse_cons,aC,List.drop_eq_getElem_cons hi];rfl
 have:=h l.length 0 [] bj
 simpa[ByteArray.toList]using this
def bAt(l:bn)(i:Int):Int:=((l[i.toNat]?).getD 0).toNat
def bZ(l:bn)(i:Int):bn:=l.drop i.toNat
def tTo(l:bn)(i:Int):bn:=l.take i.toNat
def Fc(l:bn)(i j:Int):bn:=(l.drop i.toNat).take (j.toNat-i.toNat)
theorem M9{l:bn}{i:Nat}:(⟨⟨l⟩⟩:ByteArray)[i]? =l[i]? :=by
 show(if h:i<l.length then some ((⟨⟨l⟩⟩:ByteArray).get i h)else none)=_;by_cases h:i<l.length
 .rw[dif_pos h,aB h];rfl
 .rw[dif_neg h,List.getElem?_eq_none bj]
theorem zW(l:bn)(i j:Nat):(⟨⟨l⟩⟩:ByteArray).extract i j=⟨⟨(l.drop i).take (j-i)⟩⟩:=by
 apply ByteArray.ext;rw[ByteArray.data_extract];apply Array.ext';rw[Array.toList_extract]
theorem nC{i:Int}{n:Nat}{c:BoundsCode}(h0:0<=i)(h1:i<=n):Instr.sliceBound (.int .i64 i) n c=pure i.toNat:=by
 show(if 0<=i/\i<=n then pure i.toNat else boundsPanic .i64 i n c)=_;rw[bi ⟨h0,h1⟩]
theorem run_bind{α β:Type}(P:Program)(s:Sem α)(f:α->Sem β):pureRun P (s>>=f)=(pureRun P s).bind λa=>pureRun P (f a):=by
 show pureRun P (s.bind f)=_
 induction s with
 |pure a=>rfl
 |program k ih=>exact ih P
 |mark m k ih=>exact ih
 |_=>rfl
theorem zi{P:Program}{n:Nat}{i j:Int}(h0:0<=i)(h1:i<=j)(h2:j<=n):pureRun P (Instr.sliceBounds false n n (some (.int .i64 i)) (some (.int .i64 j)) none)=some (i.toNat,j.toNat,n):=by
 show pureRun P (Instr.sliceBound (.int .i64 j) n .sliceAlen>>=λh=>Instr.sliceBound (.int .i64 i) h .sliceB>>=λl=>pure (l,h,n))=_;rw[nC bj h2];show pureRun P (Instr.sliceBound (.int .i64 i) j.toNat .sliceB>>=λl=>pure (l,j.toNat,n))=_;rw[nC h0 bj];rfl
theorem Ea{P:Program}{n:Nat}{i:Int}(h0:0<=i)(h1:i<=n):pureRun P (Instr.sliceBounds false n n (some (.int .i64 i)) none none)=some (i.toNat,n,n):=by
 show pureRun P (Instr.sliceBound (.int .i64 i) n .sliceB>>=λl=>pure (l,n,n))=_;rw[nC h0 h1];rfl
theorem Du{P:Program}{n:Nat}{j:Int}(h0:0<=j)(h1:j<=n):pureRun P (Instr.sliceBounds false n n none (some (.int .i64 j)) none)=some (0,j.toNat,n):=by
 show pureRun P (Instr.sliceBound (.int .i64 j) n .sliceAlen>>=λh=>pure (0,h,n))=_;rw[nC h0 h1];rfl
theorem fb{α:Type}{P:Program}{t:TypeId}{d:TypeDesc}(h:P.underlying t=some d)(f:TypeDesc->Sem α):pureRun P (underlying t>>=f)=pureRun P (f d):=by
 rw[run_bind];have:pureRun P (underlying t)=some d:=by
  show pureRun P (match P.underlying t with
   |some d=>(pure d:Sem TypeDesc)
   |none=>stuck "no such type")=_
  rw[h];rfl
 rw[this];rfl
section
variable {P:Program}{t:TypeId}
theorem Mc{l:bn}{i:Int}(ht:tyU P t=some .string)(k:IntKind)(h0:0<=i)(h1:i<l.length):kD P t (.lit (.string ⟨⟨l⟩⟩)) (.lit (.int k i))=some (.lit (.int .u8 (bAt l i))):=by
 have hi:i.toNat<l.length:=by omega
 have e:pureRun P (Instr.index t (.string ⟨⟨l⟩⟩) (.int k i))=some (.int .u8 (bAt l i)):=by
  show pureRun P (underlying t>>=λd=>_)=_;rw[fb ht];show pureRun P (match(if 0<=i then(⟨⟨l⟩⟩:ByteArray)[i.toNat]? else none)with
   |some b=>pure (Value.int .u8 b.toNat)
   |none=>boundsPanic k i (⟨⟨l⟩⟩:ByteArray).size .index)=_
  rw[bi h0,M9,aB hi];simp only[bAt,aB hi,Option.getD_some];rfl
 simp only[kD,ht,SV.toLit,e,af]
theorem vP{l r:bn}{lo hi:Option Value}{a b c:Nat}(ht:tyU P t=some .string)(hb:pureRun P (Instr.sliceBounds false l.length l.length lo hi none)=some (a,b,c))(hr:(l.drop a).take (b-a)=r):pureRun P (Instr.sliceAt t (.string ⟨⟨l⟩⟩) lo hi none)=some (.string ⟨⟨r⟩⟩):=by
 show pureRun P (underlying t>>=λd=>_)=_;rw[fb ht];show pureRun P (underlying t>>=λd=>_)=_;rw[fb ht];show pureRun P (Instr.sliceBounds false l.length l.length lo hi none>>=λx=>pure (Value.string ((⟨⟨l⟩⟩:ByteArray).extract x.1 x.2.1)))=_;rw[run_bind,hb];show some (Value.string ((⟨⟨l⟩⟩:ByteArray).extract a b))=_;rw[zW,hr]
theorem It{l:bn}{i j:Int}(ht:tyU P t=some .string)(h0:0<=i)(h1:i<=j)(h2:j<=l.length):d9 P t (.lit (.string ⟨⟨l⟩⟩)) (some (.lit (.int .i64 i))) (some (.lit (.int .i64 j))) none=some (.lit (.string ⟨⟨Fc l i j⟩⟩)):=by
 have e:=vP ht (zi (P:=P) h0 h1 h2) (r:=Fc l i j) rfl;simp only[d9,ht,e,af]
theorem Hn{l:bn}{i:Int}(ht:tyU P t=some .string)(h0:0<=i)(h1:i<=l.length):d9 P t (.lit (.string ⟨⟨l⟩⟩)) (some (.lit (.int .i64 i))) none none=some (.lit (.string ⟨⟨bZ l i⟩⟩)):=by
 have e:=vP ht (Ea (P:=P) h0 h1) (r:=bZ l i) (by rw[List.take_of_length_le (by rw[aR];omega)];rfl);simp only[d9,ht,e,af]
theorem MG{l:bn}{j:Int}(ht:tyU P t=some .string)(h0:0<=j)(h1:j<=l.length):d9 P t (.lit (.string ⟨⟨l⟩⟩)) none (some (.lit (.int .i64 j))) none=some (.lit (.string ⟨⟨tTo l j⟩⟩)):=by
 have e:=vP ht (Du (P:=P) h0 h1) (r:=tTo l j) (by simp[tTo]);simp only[d9,ht,e,af]
theorem JE{h:Hp}{l:bn}(ht:tyU P t=some .string):gy P h t (.lit (.string ⟨⟨l⟩⟩))=some (.lit (.int .i64 (l.length:Int)),[]):=by
 have e:pureRun P (Builtin.len_ #[t] 0 #[.string ⟨⟨l⟩⟩])=some (.int .i64 (l.length:Int)):=by
  show pureRun P (underlying t>>=λd=>_)=_;rw[fb ht];rfl
 simp only[gy,ht,SV.toLit,e]
end
structure Win(h:Hp)(b o:Nat)(cs:List SV):Prop where
 lt:b<h.next
 get:∃l,knownCells h b=some l/\cut l o cs.length=some cs
structure GWin(Γ:Glob)(g o:Nat)(cs:List SV):Prop where
 get:∃l,Γ.get g=some l/\cut (l.map .lit) o cs.length=some cs
theorem dg{l r:List SV}{o n:Nat}:cut l o n=some r↔(l.drop o).take n=r/\((l.drop o).take n).length=n:=by
 show(bif Nat.beq ((l.drop o).take n).length n then some ((l.drop o).take n)else none)=some r↔_;cases hb:Nat.beq ((l.drop o).take n).length n with
 |false=>exact⟨λh=>(by cases h),λh=>(by rw[fl h.2]at hb;cases hb)⟩
 |true=>exact⟨λh=>⟨ab h,aj hb⟩,λh=>congrArg some h.1⟩
theorem mU{l cs vs:List SV}{o k n:Nat}(h:cut l o cs.length=some cs)(hv:cut cs k n=some vs):cut l (o+k) n=some vs:=by
 obtain⟨e1,_⟩:=dg.1 h;obtain⟨e2,hlen⟩:=dg.1 hv;have e3:(l.drop (o+k)).take n=(cs.drop k).take n:=by
  have:(cs.drop k).take n=(((l.drop o).take cs.length).drop k).take n:=by rw[e1]
  rw[this,List.drop_take,List.drop_drop,List.take_take];rw[aL,aR]at hlen;rw[Nat.min_eq_left bj]
 exact dg.2 ⟨e3.trans e2,by rw[e3];exact hlen⟩
section
variable {P:Program}{Γ:Glob}{h:Hp}{t:TypeId}{b g o k n:Nat}{cs vs:List SV}{v:SV}
theorem vu(hv:cs[k]? =some v):cut cs k 1=some [v]:=by
 have:(cs.drop k).take 1=[v]:=by rw[List.take_one,List.head?_drop,hv];rfl
 simp only[cut,this];rfl
theorem Fe(ht:e8 P t=some false)(w:Win h b o cs)(hv:cs[k]? =some v):dk P Γ h t (.ptr b (o+k))=some (v,[.cells b (o+k) [v]]):=by
 obtain⟨l,h1,h2⟩:=w.get;simp only[dk,ht,bF,h1,ay,mU h2 (vu hv)]
theorem J9(ht:e8 P t=some true)(hs:bI P t=some n)(w:Win h b o cs)(hv:cut cs k n=some vs):dk P Γ h t (.ptr b (o+k))=some (.agg vs,[.cells b (o+k) vs]):=by
 obtain⟨l,h1,h2⟩:=w.get;simp only[dk,ht,hs,bF,h1,ay,mU h2 hv]
theorem DR(ht:e8 P t=some false)(w:GWin Γ g o cs)(hv:cs[k]? =some v):dk P Γ h t (.lit (.pointer (some ⟨g,o+k,none⟩)))=some (v,[]):=by
 obtain⟨l,h1,h2⟩:=w.get;simp only[dk,ht,bF,h1,ay,mU h2 (vu hv)]
theorem H7(ht:e8 P t=some true)(hs:bI P t=some n)(w:GWin Γ g o cs)(hv:cut cs k n=some vs):dk P Γ h t (.lit (.pointer (some ⟨g,o+k,none⟩)))=some (.agg vs,[]):=by
 obtain⟨l,h1,h2⟩:=w.get;simp only[dk,ht,hs,bF,h1,ay,mU h2 hv]
theorem Ff(w:Win h b o cs)(hc:cut cs k vs.length=some vs)(hs:SV.sameL vs vs=true):eW h (.cells b (o+k) vs)=true:=by
 obtain⟨l,h1,h2⟩:=w.get;simp only[eW,h1,ay,mU h2 hc,hs]
end
def PtrTo(Γ:Glob)(h:Hp)(p:SV)(cs:List SV):Prop:=(∃b o,p=.ptr b o/\Win h b o cs)\/(∃g o,p=.lit (.pointer (some ⟨g,o,none⟩))/\GWin Γ g o cs)
def gA(p:SV)(n:Nat):SV:=match p with
 | .ptr b o=>.ptr b (o+n)
 | .lit (.pointer (some ⟨g,o,none⟩))=>.lit (.pointer (some ⟨g,o+n,none⟩))
 |v=>v
def mH(p:SV)(k:Nat)(vs:List SV):List Fact:=match p with
 | .ptr b o=>[.cells b (o+k) vs]
 |_=>[]
section
variable {P:Program}{Γ:Glob}{h:Hp}{t s:TypeId}{k n i off:Nat}{cs vs:List SV}{v p:SV}
theorem PtrTo.cases{C:SV->Prop}(w:PtrTo Γ h p cs)(h1:∀b o,C (.ptr b o))(h2:∀g o,C (.lit (.pointer (some ⟨g,o,none⟩)))):C p:=by
 rcases w with⟨b,o,rfl,_⟩|⟨g,o,rfl,_⟩
 .exact h1 b o
 .exact h2 g o
theorem wj(ht:e8 P t=some false)(w:PtrTo Γ h p cs)(hv:cs[k]? =some v):dk P Γ h t (gA p k)=some (v,mH p k [v]):=by
 rcases w with⟨b,o,rfl,w⟩|⟨g,o,rfl,w⟩
 .exact Fe ht w hv
 .exact DR ht w hv
theorem MQ(ht:e8 P t=some true)(hs:bI P t=some n)(w:PtrTo Γ h p cs)(hv:cut cs k n=some vs):dk P Γ h t (gA p k)=some (.agg vs,mH p k vs):=by
 rcases w with⟨b,o,rfl,w⟩|⟨g,o,rfl,w⟩
 .exact J9 ht hs w hv
 .exact H7 ht hs w hv
theorem td(w:PtrTo Γ h p cs):gA p 0=p:=w.cases (C:=λp=>gA p 0=p) (λ_ _=>rfl) λ_ _=>rfl
theorem u6{H:Hp}(w:PtrTo Γ H p cs)(hc:cut cs k vs.length=some vs)(hs:SV.sameL vs vs=true):(mH p k vs).all (eW H)=true:=by
 rcases w with⟨b,o,rfl,w⟩|⟨g,o,rfl,w⟩
 .simp only[mH,al,List.all_nil,Ff w hc hs,aF]
 .rfl
end
theorem cells_one{v:SV}(h:SV.one v=true):SV.cells v=[v]:=by
 cases v with
 |lit x=>cases x<;>first|rfl|cases h
 |agg l=>cases h
 |_=>rfl
def Sub(Z Z':Hp):Prop:=Z.next<=Z'.next/\∀b o,Z.objs.get b=some o->Z'.objs.get b=some o
theorem Sub.refl(Z:Hp):Sub Z Z:=⟨av _,λ_ _ h=>h⟩
theorem Sub.trans{A B C:Hp}(h:Sub A B)(k:Sub B C):Sub A C:=⟨Nat.le_trans h.1 k.1,λb o e=>k.2 b o (h.2 b o e)⟩
structure Asrt where
 p:Hp->(Nat->Prop)->Hp->Prop
 loc:∀{Z:Hp} {D:Nat->Prop} {h h':Hp},(∀b,D b->h'.objs.get b=h.objs.get b)->p Z D h->p Z D h'
 mono:∀{Z Z':Hp} {D:Nat->Prop} {h:Hp},Sub Z Z'->p Z D h->p Z' D h
def emp:Asrt:=⟨λ_ _ _=>True,λ_ _=>trivial,λ_ _=>trivial⟩
structure Va where
 i:Nat->Int
 t:Nat->bn
 b:Nat->Bool
 r:Nat->SV
 n:Nat->Nat
 a:Nat->Asrt
 one:∀k,SV.one (r k)=true
 self:∀k,SV.same (r k) (r k)=true
structure Cnt where
 i:Nat:=0
 t:Nat:=0
 b:Nat:=0
 r:Nat:=0
 n:Nat:=0
 a:Nat:=0
def Cnt.n1(c:Cnt):Cnt:=⟨c.i,c.t,c.b,c.r,c.n+1,c.a⟩
structure Vals where
 i:List Int:=[]
 t:List bn:=[]
 b:List Bool:=[]
 r:List SV:=[]
 n:List Nat:=[]
 a:List Asrt:=[]
def fN{α:Type}(f:Nat->α)(c:Nat)(l:List α)(d:α)(k:Nat):α:=bif Nat.blt k c then f k else l.getD (k-c) d
def oneS(v:SV):SV:=bif SV.one v&&SV.same v v then v else .lit (.bool false)
theorem cm{v:SV}(h:SV.one v=true)(h':SV.same v v=true):oneS v=v:=by rw[oneS,h,h'];rfl
theorem iZ(v:SV):SV.one (oneS v)=true/\SV.same (oneS v) (oneS v)=true:=by
 unfold oneS;cases h:SV.one v&&SV.same v v with
 |true=>
  rw[a8]at h;exact h
 |false=>exact⟨rfl,rfl⟩
theorem ut{f:Nat->SV}{c:Nat}{l:List SV}(h:∀k,SV.one (f k)=true)(h':∀k,SV.same (f k) (f k)=true)(k:Nat):SV.one (fN f c (l.map oneS) (.lit (.bool false)) k)=true/\SV.same (fN f c (l.map oneS) (.lit (.bool false)) k) (fN f c (l.map oneS) (.lit (.bool false)) k)=true:=by
 unfold fN;cases Nat.blt k c with
 |true=>exact⟨h k,h' k⟩
 |false=>
  simp only[bg,List.getD_eq_getElem?_getD];cases e:(l.map oneS)[k-c]? with
  |none=>exact⟨rfl,rfl⟩
  |some v=>
   obtain⟨w,_,rfl⟩:=List.mem_map.1 (aW e);exact iZ w
def Va.ext(ρ:Va)(c:Cnt)(e:Vals):Va where
 i:=fN ρ.i c.i e.i 0
 t:=fN ρ.t c.t e.t []
 b:=fN ρ.b c.b e.b false
 r:=fN ρ.r c.r (e.r.map oneS) (.lit (.bool false))
 n:=fN ρ.n c.n e.n 0
 a:=fN ρ.a c.a e.a emp
 one:=λk=>(ut ρ.one ρ.self k).1
 self:=λk=>(ut ρ.one ρ.self k).2
def Va.nil:Va:=⟨λ_=>0,λ_=>[],λ_=>false,λ_=>.lit (.bool false),λ_=>0,λ_=>emp,λ_=>rfl,λ_=>rfl⟩
def va(e:Vals):Va:=Va.nil.ext {} e
structure Agree(c:Cnt)(ρ ρ':Va):Prop where
 i:∀k,k<c.i->ρ'.i k=ρ.i k
 t:∀k,k<c.t->ρ'.t k=ρ.t k
 b:∀k,k<c.b->ρ'.b k=ρ.b k
 r:∀k,k<c.r->ρ'.r k=ρ.r k
 n:∀k,k<c.n->ρ'.n k=ρ.n k
 a:∀k,k<c.a->ρ'.a k=ρ.a k
theorem j5{α:Type}{f:Nat->α}{c:Nat}{l:List α}{d:α}{k:Nat}(h:k<c):fN f c l d k=f k:=by
 unfold fN;rw[show Nat.blt k c=true from ai h];rfl
theorem cw(c:Cnt)(ρ:Va)(e:Vals):Agree c ρ (ρ.ext c e):=⟨λ_ h=>j5 h,λ_ h=>j5 h,λ_ h=>j5 h,λ_ h=>j5 h,λ_ h=>j5 h,λ_ h=>j5 h⟩
inductive X where
 |v (i:Nat)|z (n:Int)|add (a b:X)|sub (a b:X)|mul (a b:X)|neg (a:X)|quo (a b:X)|rem (a b:X)|wr (k:IntKind) (a:X)
 |len (t:X)|at(t i:X)
 |tv (i:Nat)|tl (l:bn)|tfr (t i:X)|tto (t i:X)|tmid (t i j:X)|cat (a b:X)
 |bv (i:Nat)|bl (b:Bool)|lt (a b:X)|le (a b:X)|eq (a b:X)|teq (a b:X)|beq (a b:X)|not (a:X)|and (a b:X)|or (a b:X)
structure D where
 i:Int:=0
 t:bn:=[]
 b:Bool:=false
def X.den(ρ:Va):X->D
 | .v k=>{i:=ρ.i k}
 | .z n=>{i:=n}
 | .add a b=>{i:=(a.den ρ).i+(b.den ρ).i}
 | .sub a b=>{i:=(a.den ρ).i-(b.den ρ).i}
 | .mul a b=>{i:=(a.den ρ).i*(b.den ρ).i}
 | .neg a=>{i:= -(a.den ρ).i}
 | .quo a b=>{i:=(a.den ρ).i.tdiv (b.den ρ).i}
 | .rem a b=>{i:=(a.den ρ).i.tmod (b.den ρ).i}
 | .wr k a=>{i:=k.wrap (a.den ρ).i}
 | .len t=>{i:=((t.den ρ).t.length:Int)}
 | .at t i=>{i:=bAt (t.den ρ).t (i.den ρ).i}
 | .tv k=>{t:=ρ.t k}
 | .tl l=>{t:=l}
 | .tfr t i=>{t:=bZ (t.den ρ).t (i.den ρ).i}
 | .tto t i=>{t:=tTo (t.den ρ).t (i.den ρ).i}
 | .tmid t i j=>{t:=Fc (t.den ρ).t (i.den ρ).i (j.den ρ).i}
 | .cat a b=>{t:=(a.den ρ).t++(b.den ρ).t}
 | .bv k=>{b:=ρ.b k}
 | .bl b=>{b:=b}
 | .lt a b=>{b:=decide ((a.den ρ).i<(b.den ρ).i)}
 | .le a b=>{b:=decide ((a.den ρ).i<=(b.den ρ).i)}
 | .eq a b=>{b:=decide ((a.den ρ).i=(b.den ρ).i)}
 | .teq a b=>{b:=decide ((a.den ρ).t=(b.den ρ).t)}
 | .beq a b=>{b:=(a.den ρ).b==(b.den ρ).b}
 | .not a=>{b:= !(a.den ρ).b}
 | .and a b=>{b:=(a.den ρ).b&&(b.den ρ).b}
 | .or a b=>{b:=(a.den ρ).b||(b.den ρ).b}
def X.prop(ρ:Va):X->Prop
 | .bv k=>ρ.b k=true
 | .bl b=>b=true
 | .lt a b=>(a.den ρ).i<(b.den ρ).i
 | .le a b=>(a.den ρ).i<=(b.den ρ).i
 | .eq a b=>(a.den ρ).i=(b.den ρ).i
 | .teq a b=>(a.den ρ).t=(b.den ρ).t
 | .beq a b=>(a.den ρ).b=(b.den ρ).b
 | .not a=>¬a.prop ρ
 | .and a b=>a.prop ρ/\b.prop ρ
 | .or a b=>a.prop ρ\/b.prop ρ
 |_=>False
theorem X.prop_iff(ρ:Va):∀x:X,(x.den ρ).b=true↔x.prop ρ:=by
 intro x
 induction x with
 |not a ih=>
  simp only[X.den,X.prop,<-ih];cases(a.den ρ).b<;>simp
 |and a b iha ihb=>simp only[X.den,X.prop,<-iha,<-ihb,a8]
 |or a b iha ihb=>simp only[X.den,X.prop,<-iha,<-ihb,Bool.or_eq_true]
 |_=>simp[X.den,X.prop]
theorem X.prop_false(ρ:Va)(x:X):(x.den ρ).b=false↔¬x.prop ρ:=by
 rw[<-X.prop_iff];cases(x.den ρ).b<;>simp
def X.sc(c:Cnt):X->Bool
 | .v k=>Nat.blt k c.i
 | .tv k=>Nat.blt k c.t
 | .bv k=>Nat.blt k c.b
 | .z _| .tl _| .bl _=>true
 | .neg a| .len a| .not a| .wr _ a=>a.sc c
 | .add a b| .sub a b| .mul a b| .quo a b| .rem a b| .at a b| .tfr a b| .tto a b| .cat a b| .lt a b| .le a b| .eq a b| .teq a b| .beq a b| .and a b| .or a b=>a.sc c&&b.sc c
 | .tmid a i j=>a.sc c&&(i.sc c&&j.sc c)
theorem X.den_agree{c:Cnt}{ρ ρ':Va}(h:Agree c ρ ρ'):∀x:X,x.sc c=true->x.den ρ'=x.den ρ:=by
 intro x
 induction x with
 |v k=>intro hl;simp only[X.den,h.i k (ca hl)]
 |tv k=>intro hl;simp only[X.den,h.t k (ca hl)]
 |bv k=>intro hl;simp only[X.den,h.b k (ca hl)]
 |z _=>intro _;rfl
 |tl _=>intro _;rfl
 |bl _=>intro _;rfl
 |neg a ih=>intro hl;simp only[X.den,ih hl]
 |len a ih=>intro hl;simp only[X.den,ih hl]
 |wr k a ih=>intro hl;simp only[X.den,ih hl]
 |not a ih=>intro hl;simp only[X.den,ih hl]
 |tmid a i j h1 h2 h3=>
  intro hl;simp only[X.sc,a8]at hl;simp only[X.den,h1 hl.1,h2 hl.2.1,h3 hl.2.2]
 |_=>
  rename_i h1 h2;intro hl;simp only[X.sc,a8]at hl;simp only[X.den,h1 hl.1,h2 hl.2]
def gR:bn->bn->Bool
 |[],[]=>true
 |a::l,b::m=>Nat.beq a.toNat b.toNat&&gR l m
 |_,_=>false
theorem mg:∀{l m:bn},gR l m=true->l=m
 |[],[],_=>rfl
 |a::l,b::m,h=>by
  simp only[gR,a8]at h;rw[UInt8.toNat_inj.1 (eq_of_beq h.1),mg h.2]
 |[],_::_,h=>by cases h
 |_::_,[],h=>by cases h
def Gj:Int->Int->Bool
 | .ofNat a,.ofNat b=>Nat.beq a b
 | .negSucc a,.negSucc b=>Nat.beq a b
 |_,_=>false
theorem E4:∀{a b:Int},Gj a b=true->a=b
 | .ofNat _,.ofNat _,h=>by rw[eq_of_beq h]
 | .negSucc _,.negSucc _,h=>by rw[eq_of_beq h]
 | .ofNat _,.negSucc _,h=>by cases h
 | .negSucc _,.ofNat _,h=>by cases h
def X.same:X->X->Bool
 | .v i,.v j=>Nat.beq i j
 | .z a,.z b=>Gj a b
 | .add a b,.add c d=>a.same c&&b.same d
 | .sub a b,.sub c d=>a.same c&&b.same d
 | .mul a b,.mul c d=>a.same c&&b.same d
 | .neg a,.neg c=>a.same c
 | .wr k a,.wr k' c=>decide (k=k')&&a.same c
 | .quo a b,.quo c d=>a.same c&&b.same d
 | .rem a b,.rem c d=>a.same c&&b.same d
 | .len a,.len c=>a.same c
 | .at a b,.at c d=>a.same c&&b.same d
 | .tv i,.tv j=>Nat.beq i j
 | .tl l,.tl m=>gR l m
 | .tfr a b,.tfr c d=>a.same c&&b.same d
 | .tto a b,.tto c d=>a.same c&&b.same d
 | .tmid a b e,.tmid c d f=>a.same c&&(b.same d&&e.same f)
 | .cat a b,.cat c d=>a.same c&&b.same d
 | .bv i,.bv j=>Nat.beq i j
 | .bl a,.bl b=>a==b
 | .lt a b,.lt c d=>a.same c&&b.same d
 | .le a b,.le c d=>a.same c&&b.same d
 | .eq a b,.eq c d=>a.same c&&b.same d
 | .teq a b,.teq c d=>a.same c&&b.same d
 | .beq a b,.beq c d=>a.same c&&b.same d
 | .not a,.not c=>a.same c
 | .and a b,.and c d=>a.same c&&b.same d
 | .or a b,.or c d=>a.same c&&b.same d
 |_,_=>false
theorem X.same_eq:∀(x y:X),x.same y=true->x=y:=by
 intro x
 induction x with
 |v i=>intro y h;cases y<;>first|(cases h;done)|rw[eq_of_beq (show Nat.beq _ _=true from h)]
 |tv i=>intro y h;cases y<;>first|(cases h;done)|rw[eq_of_beq (show Nat.beq _ _=true from h)]
 |bv i=>intro y h;cases y<;>first|(cases h;done)|rw[eq_of_beq (show Nat.beq _ _=true from h)]
 |z a=>intro y h;cases y<;>first|(cases h;done)|rw[E4 (show Gj _ _=true from h)]
 |tl l=>intro y h;cases y<;>first|(cases h;done)|rw[mg (show gR _ _=true from h)]
 |bl b=>intro y h;cases y<;>first|(cases h;done)|rw[beq_iff_eq.1 (show(_==_)=true from h)]
 |neg a ih=>intro y h;cases y<;>first|(cases h;done)|rw[ih _ h]
 |len a ih=>intro y h;cases y<;>first|(cases h;done)|rw[ih _ h]
 |not a ih=>intro y h;cases y<;>first|(cases h;done)|rw[ih _ h]
 |wr k a ih=>
  intro y h;cases y<;>first|(cases h;done)|skip
  simp only[X.same,a8,ba]at h;rw[h.1,ih _ h.2]
 |tmid a b e h1 h2 h3=>
  intro y h;cases y<;>first|(cases h;done)|skip
  simp only[X.same,a8]at h;rw[h1 _ h.1,h2 _ h.2.1,h3 _ h.2.2]
 |_=>
  rename_i h1 h2;intro y h;cases y<;>first|(cases h;done)|skip
  simp only[X.same,a8]at h;rw[h1 _ h.1,h2 _ h.2]
inductive XV where
 |int (k:IntKind) (e:X)
 |bool (e:X)
 |txt (e:X)
 |lit (v:Value)
 |ptr (n off:Nat)
 |raw (i:Nat)
 |pad (i k:Nat)
 |map (n:Nat)
 |slice (n off len cap:Nat)
 |agg (l:List XV)
 |tup (l:List XV)
 |fn (f:FuncId) (a c:List XV)
 |yield (n:Nat)
 |iface (t:TypeId) (v:XV)
 deriving Inhabited
mutual
def XV.sv(ρ:Va):XV->SV
 | .int k e=>.lit (.int k (e.den ρ).i)
 | .bool e=>.lit (.bool (e.den ρ).b)
 | .txt e=>.lit (.string ⟨⟨(e.den ρ).t⟩⟩)
 | .lit v=>.lit v
 | .ptr n off=>.ptr (ρ.n n) off
 | .raw i=>ρ.r i
 | .pad i k=>gA (ρ.r i) k
 | .map n=>.map (ρ.n n)
 | .slice n off len cap=>.slice (ρ.n n) off len cap
 | .agg l=>.agg (svL ρ l)
 | .tup l=>.tuple (svL ρ l)
 | .fn f a c=>.func (.func f) (svL ρ a) (svL ρ c)
 | .yield n=>.yield (ρ.n n)
 | .iface t v=>.iface t (v.sv ρ)
def svL(ρ:Va):List XV->List SV
 |[]=>[]
 |v::l=>v.sv ρ::svL ρ l
end
theorem iz(ρ:Va):∀l:List XV,svL ρ l=l.map (·.sv ρ)
 |[]=>rfl
 |v::l=>by rw[svL,iz ρ l,ax]
@[simp] theorem gS (ρ:Va) (l:List XV):(svL ρ l).length=l.length:=by rw[iz,ao]
theorem pE(ρ:Va)(l m:List XV):svL ρ (l++m)=svL ρ l++svL ρ m:=by simp only[iz,aH]
theorem lD(ρ:Va)(l:List XV)(i:Nat):(svL ρ l)[i]? =(l[i]?).map (·.sv ρ):=by rw[iz,aV]
theorem y9(ρ:Va)(l:List XV)(i:Nat):(svL ρ l).drop i=svL ρ (l.drop i):=by rw[iz,iz,List.map_drop]
theorem za(ρ:Va)(l:List XV)(i:Nat):(svL ρ l).take i=svL ρ (l.take i):=by rw[iz,iz,List.map_take]
mutual
def XV.sc(c:Cnt):XV->Bool
 | .int _ e=>e.sc c
 | .bool e=>e.sc c
 | .txt e=>e.sc c
 | .lit _=>true
 | .ptr n _=>Nat.blt n c.n
 | .raw i=>Nat.blt i c.r
 | .pad i _=>Nat.blt i c.r
 | .map n=>Nat.blt n c.n
 | .slice n _ _ _=>Nat.blt n c.n
 | .agg l=>scL c l
 | .tup l=>scL c l
 | .fn _ a b=>scL c a&&scL c b
 | .yield n=>Nat.blt n c.n
 | .iface _ v=>v.sc c
def scL(c:Cnt):List XV->Bool
 |[]=>true
 |v::l=>v.sc c&&scL c l
end
mutual
theorem XV.sv_agree{c:Cnt}{ρ ρ':Va}(h:Agree c ρ ρ'):∀v:XV,v.sc c=true->v.sv ρ'=v.sv ρ
 | .int k e,hl=>by simp only[XV.sv,e.den_agree h hl]
 | .bool e,hl=>by simp only[XV.sv,e.den_agree h hl]
 | .txt e,hl=>by simp only[XV.sv,e.den_agree h hl]
 | .lit _,_=>rfl
 | .ptr n _,hl=>by simp only[XV.sv,h.n n (ca hl)]
 | .raw i,hl=>h.r i (ca hl)
 | .pad i _,hl=>by simp only[XV.sv,h.r i (ca hl)]
 | .map n,hl=>by simp only[XV.sv,h.n n (ca hl)]
 | .slice n _ _ _,hl=>by simp only[XV.sv,h.n n (ca hl)]
 | .agg l,hl=>by simp only[XV.sv,fB h l hl]
 | .tup l,hl=>by simp only[XV.sv,fB h l hl]
 | .fn _ a b,hl=>by
   simp only[XV.sc,a8]at hl;simp only[XV.sv,fB h a hl.1,fB h b hl.2]
 | .yield n,hl=>by simp only[XV.sv,h.n n (ca hl)]
 | .iface _ v,hl=>by simp only[XV.sv,v.sv_agree h hl]
theorem fB{c:Cnt}{ρ ρ':Va}(h:Agree c ρ ρ'):∀l:List XV,scL c l=true->svL ρ' l=svL ρ l
 |[],_=>rfl
 |v::l,hl=>by
  simp only[scL,a8]at hl;simp only[svL,v.sv_agree h hl.1,fB h l hl.2]
end
mutual
def XV.same:XV->XV->Bool
 | .int k e,.int k' e'=>decide (k=k')&&e.same e'
 | .bool e,.bool e'=>e.same e'
 | .txt e,.txt e'=>e.same e'
 | .lit v,.lit v'=>SV.same (.lit v) (.lit v')
 | .ptr n o,.ptr n' o'=>Nat.beq n n'&&Nat.beq o o'
 | .raw i,.raw j=>Nat.beq i j
 | .pad i k,.pad j k'=>Nat.beq i j&&Nat.beq k k'
 | .map n,.map m=>Nat.beq n m
 | .slice n a b c,.slice n' a' b' c'=>Nat.beq n n'&&(Nat.beq a a'&&(Nat.beq b b'&&Nat.beq c c'))
 | .agg l,.agg m=>fX l m
 | .tup l,.tup m=>fX l m
 | .fn f a c,.fn g a' c'=>Nat.beq f g&&(fX a a'&&fX c c')
 | .yield n,.yield m=>Nat.beq n m
 | .iface t v,.iface t' v'=>Nat.beq t t'&&v.same v'
 |_,_=>false
def fX:List XV->List XV->Bool
 |[],[]=>true
 |v::l,w::m=>v.same w&&fX l m
 |_,_=>false
end
mutual
theorem XV.same_eq(ρ:Va):∀(x y:XV),x.same y=true->x.sv ρ=y.sv ρ
 | .int k e,y,h=>by
   cases y<;>first|(cases h;done)|skip
   simp only[XV.same,a8,ba]at h;rw[h.1,X.same_eq _ _ h.2]
 | .bool e,y,h=>by
   cases y<;>first|(cases h;done)|skip
   rw[X.same_eq _ _ h]
 | .txt e,y,h=>by
   cases y<;>first|(cases h;done)|skip
   rw[X.same_eq _ _ h]
 | .lit v,y,h=>by
   cases y<;>first|(cases h;done)|skip
   exact Ev.same_eq _ _ h
 | .ptr n o,y,h=>by
   cases y<;>first|(cases h;done)|skip
   simp only[XV.same,a8]at h;rw[eq_of_beq h.1,eq_of_beq h.2]
 | .raw i,y,h=>by
   cases y<;>first|(cases h;done)|skip
   rw[eq_of_beq h]
 | .pad i k,y,h=>by
   cases y<;>first|(cases h;done)|skip
   simp only[XV.same,a8]at h;rw[eq_of_beq h.1,eq_of_beq h.2]
 | .map n,y,h=>by
   cases y<;>first|(cases h;done)|skip
   rw[eq_of_beq h]
 | .slice n a b c,y,h=>by
   cases y<;>first|(cases h;done)|skip
   simp only[XV.same,a8]at h;rw[eq_of_beq h.1,eq_of_beq h.2.1,eq_of_beq h.2.2.1,eq_of_beq h.2.2.2]
 | .agg l,y,h=>by
   cases y<;>first|(cases h;done)|skip
   simp only[XV.sv,d6 ρ _ _ h]
 | .tup l,y,h=>by
   cases y<;>first|(cases h;done)|skip
   simp only[XV.sv,d6 ρ _ _ h]
 | .fn f a c,y,h=>by
   cases y<;>first|(cases h;done)|skip
   simp only[XV.same,a8]at h;simp only[XV.sv,eq_of_beq h.1,d6 ρ _ _ h.2.1,d6 ρ _ _ h.2.2]
 | .yield n,y,h=>by
   cases y<;>first|(cases h;done)|skip
   rw[eq_of_beq h]
 | .iface t v,y,h=>by
   cases y<;>first|(cases h;done)|skip
   simp only[XV.same,a8]at h;simp only[XV.sv,eq_of_beq h.1,XV.same_eq ρ _ _ h.2]
theorem d6(ρ:Va):∀(l m:List XV),fX l m=true->svL ρ l=svL ρ m
 |[],[],_=>rfl
 |v::l,w::m,h=>by
  simp only[fX,a8]at h;simp only[svL,XV.same_eq ρ _ _ h.1,d6 ρ _ _ h.2]
 |[],_::_,h=>by cases h
 |_::_,[],h=>by cases h
end
def l7:Value->XV
 | .int k n=>.int k (.z n)
 | .bool b=>.bool (.bl b)
 | .string s=>.txt (.tl s.data.toList)
 |v=>.lit v
theorem nf(ρ:Va)(v:Value):(l7 v).sv ρ=.lit v:=by cases v<;>rfl
theorem lN(ρ:Va)(l:List Value):svL ρ (l.map l7)=l.map .lit:=by
 rw[iz,List.map_map];exact List.map_congr_left λv _=>nf ρ v
def XV.cells:XV->List XV
 | .agg l=>l
 | .lit (.agg cs)=>cs.toList.map l7
 |v=>[v]
theorem yT{p:SV}{k:Nat}(h:SV.one p=true):SV.one (gA p k)=true:=by
 unfold gA;split<;>first|rfl|exact h
theorem XV.cells_sv(ρ:Va)(v:XV):svL ρ v.cells=(v.sv ρ).cells:=by
 cases v with
 |lit v=>cases v<;>simp[XV.cells,XV.sv,SV.cells,svL,lN]
 |agg l=>rfl
 |raw i=>simp only[XV.cells,svL,XV.sv,cells_one (ρ.one i)]
 |pad i k=>simp only[XV.cells,svL,XV.sv,cells_one (yT (ρ.one i))]
 |_=>rfl
def XV.one:XV->Bool
 | .agg _| .tup _| .lit (.agg _)| .lit (.tuple _)=>false
 |_=>true
theorem XV.one_sv(ρ:Va){v:XV}(h:v.one=true):SV.one (v.sv ρ)=true:=by
 cases v with
 |lit v=>cases v<;>first|rfl|cases h
 |agg l=>cases h
 |tup l=>cases h
 |raw i=>exact ρ.one i
 |pad i k=>exact yT (ρ.one i)
 |_=>rfl
theorem XV.one_all(ρ:Va):∀{l:List XV},l.all XV.one=true->(svL ρ l).all SV.one=true
 |[],_=>rfl
 |v::l,h=>by
  simp only[al,a8]at h;simp only[svL,al,XV.one_sv ρ h.1,XV.one_all ρ h.2,aF]
mutual
def XV.rfl':XV->Bool
 | .lit v=>SV.same (.lit v) (.lit v)
 | .agg l=>uF l
 | .tup l=>uF l
 | .fn _ a c=>uF a&&uF c
 | .yield _=>false
 | .iface _ v=>v.rfl'
 |_=>true
def uF:List XV->Bool
 |[]=>true
 |v::l=>v.rfl'&&uF l
end
theorem DB{p:SV}{k:Nat}(h:SV.same p p=true):SV.same (gA p k) (gA p k)=true:=by
 unfold gA;split
 .simp[SV.same]
 .simp[SV.same,dr]
 .exact h
mutual
theorem XV.rfl_sv(ρ:Va):∀v:XV,v.rfl'=true->SV.same (v.sv ρ) (v.sv ρ)=true
 | .int _ _,_=>by simp[XV.sv,SV.same,dr]
 | .bool _,_=>by simp[XV.sv,SV.same,dr]
 | .txt _,_=>by simp[XV.sv,SV.same,dr]
 | .lit _,h=>h
 | .ptr _ _,_=>by simp[XV.sv,SV.same]
 | .raw i,_=>ρ.self i
 | .pad i k,_=>DB (ρ.self i)
 | .map _,_=>by simp[XV.sv,SV.same]
 | .slice _ _ _ _,_=>by simp[XV.sv,SV.same]
 | .agg l,h=>by simp only[XV.sv,SV.same,kh ρ l h]
 | .tup l,h=>by simp only[XV.sv,SV.same,kh ρ l h]
 | .fn f a c,h=>by
   simp only[XV.rfl',a8]at h;simp only[XV.sv,SV.same,kh ρ a h.1,kh ρ c h.2,fl rfl,aF]
 | .yield _,h=>by cases h
 | .iface t v,h=>by simp only[XV.sv,SV.same,v.rfl_sv ρ h,fl rfl,aF]
theorem kh(ρ:Va):∀l:List XV,uF l=true->SV.sameL (svL ρ l) (svL ρ l)=true
 |[],_=>rfl
 |v::l,h=>by
  simp only[uF,a8]at h;simp only[svL,SV.sameL,v.rfl_sv ρ h.1,kh ρ l h.2,aF]
end
def Sep(Z:Hp):List Asrt->(Nat->Prop)->Hp->Prop
 |[],_,_=>True
 |a::l,U,h=>∃D:Nat->Prop,(∀b,D b->¬U b/\b<h.next)/\a.p Z D h/\Sep Z l (λb=>U b\/D b) h
theorem mO{Z:Hp}{l:List Asrt}:∀{U U':Nat->Prop} {h h':Hp},h.next<=h'.next->(∀b,b<h.next->¬U b->h'.objs.get b=h.objs.get b)->(∀b,U' b->b<h.next->U b)->Sep Z l U h->Sep Z l U' h':=by
 induction l with
 |nil=>intros;trivial
 |cons a l ih=>
  rintro U U' h h' hn hk hu ⟨D,h1,h2,h3⟩;exact⟨D,λb hb=>⟨λhb'=>(h1 b hb).1 (hu b hb' (h1 b hb).2),aM (h1 b hb).2 hn⟩,a.loc (λb hb=>hk b (h1 b hb).2 (h1 b hb).1) h2,ih hn (λb hb hu=>hk b hb λhb'=>hu (.inl hb')) (λb hb hl=>hb.imp (λx=>hu b x hl) id) h3⟩
theorem ni{Z Z':Hp}(z:Sub Z Z'){l:List Asrt}:∀{U:Nat->Prop} {h:Hp},Sep Z l U h->Sep Z' l U h:=by
 induction l with
 |nil=>intros;trivial
 |cons a l ih=>
  rintro U h ⟨D,h1,h2,h3⟩;exact⟨D,h1,a.mono z h2,ih h3⟩
theorem db{Z:Hp}{l:List Asrt}{U U':Nat->Prop}{h:Hp}(hu:∀b,U' b->U b)(s:Sep Z l U h):Sep Z l U' h:=mO (av _) (λ_ _ _=>rfl) (λb hb _=>hu b hb) s
theorem gZ{Z:Hp}{l:List Asrt}{U:Nat->Prop}{h h':Hp}(hn:h.next<=h'.next)(hk:∀b,b<h.next->¬U b->h'.objs.get b=h.objs.get b)(s:Sep Z l U h):Sep Z l U h':=mO hn hk (λ_ hb _=>hb) s
theorem Gz{Z:Hp}{a b:Asrt}{l:List Asrt}{U:Nat->Prop}{h:Hp}(s:Sep Z (a::b::l) U h):Sep Z (b::a::l) U h:=by
 obtain⟨D,h1,h2,E,h3,h4,h5⟩:=s;refine⟨E,λx hx=>⟨λhu=>(h3 x hx).1 (.inl hu),(h3 x hx).2⟩,h4,D,λx hx=>⟨λhu=>hu.elim (h1 x hx).1 λhe=>(h3 x he).1 (.inr hx),(h1 x hx).2⟩,h2,db (λx hx=>?_) h5⟩;rcases hx with(hx|hx)|hx
 .exact .inl (.inl hx)
 .exact .inr hx
 .exact .inl (.inr hx)
theorem G9{Z:Hp}{a:Asrt}{l l':List Asrt}(hl:∀U h,Sep Z l U h->Sep Z l' U h){U:Nat->Prop}{h:Hp}(s:Sep Z (a::l) U h):Sep Z (a::l') U h:=by
 obtain⟨D,h1,h2,h3⟩:=s;exact⟨D,h1,h2,hl _ _ h3⟩
theorem xw{Z:Hp}{l l':List Asrt}(p:l.Perm l'):∀{U:Nat->Prop} {h:Hp},Sep Z l U h->Sep Z l' U h:=by
 induction p with
 |nil=>exact id
 |cons a _ ih=>exact G9 λ_ _=>ih
 |swap a b l=>exact Gz
 |trans _ _ h1 h2=>exact λs=>h2 (h1 s)
theorem Jk{Z:Hp}{l m:List Asrt}:∀{U:Nat->Prop} {h:Hp},Sep Z (l++m) U h->Sep Z m U h:=by
 induction l with
 |nil=>exact id
 |cons a l ih=>
  rintro U h ⟨D,_,_,h3⟩;exact db (λb hb=>.inl hb) (ih h3)
structure St(Z:Hp)(l:List Asrt)(h:Hp):Prop where
 frz:∀b o,Z.objs.get b=some o->h.objs.get b=some o
 zlt:∀b o,Z.objs.get b=some o->b<h.next
 sep:Sep Z l (λb=>Z.objs.get b≠none) h
theorem St.perm{Z h:Hp}{l l':List Asrt}(s:St Z l h)(p:l.Perm l'):St Z l' h:=⟨s.frz,s.zlt,xw p s.sep⟩
theorem St.kept{Z h h':Hp}{l:List Asrt}(s:St Z l h)(k:Kept h.next h h'):St Z l h':=
 ⟨λb o e=>(k.old b (s.zlt b o e)).trans (s.frz b o e),λb o e=>aM (s.zlt b o e) k.next,gZ k.next (λb hb _=>k.old b hb) s.sep⟩
theorem St.drop{Z h:Hp}{l m:List Asrt}(s:St Z (l++m) h):St Z m h:=⟨s.frz,s.zlt,Jk s.sep⟩
theorem St.drop1{Z h:Hp}{a:Asrt}{l m:List Asrt}(s:St Z (l++a::m) h):St Z (l++m) h:=(s.perm List.perm_middle).drop (l:=[a])
def own(b:Nat)(o:AObj):Asrt:=⟨λ_ D h=>(∀x,D x↔x=b)/\h.objs.get b=some o,λhk ⟨h1,h2⟩=>⟨h1,(hk _ ((h1 _).2 rfl)).trans h2⟩,λ_ h=>h⟩
def hid(b:Nat):Asrt:=⟨λ_ D h=>(∀x,D x↔x=b)/\h.objs.get b=none,λhk ⟨h1,h2⟩=>⟨h1,(hk _ ((h1 _).2 rfl)).trans h2⟩,λ_ h=>h⟩
section
variable {Z h:Hp}{l m:List Asrt}{b:Nat}{o o':AObj}
theorem St.pull{a:Asrt}(s:St Z (l++a::m) h):St Z (a::(l++m)) h:=s.perm List.perm_middle
theorem St.push{a:Asrt}(s:St Z (a::(l++m)) h):St Z (l++a::m) h:=s.perm List.perm_middle.symm
theorem St.get(s:St Z (l++own b o::m) h):h.objs.get b=some o/\b<h.next:=by
 obtain⟨D,h1,⟨h2,h3⟩,_⟩:=s.pull.sep;exact⟨h3,(h1 b ((h2 b).2 rfl)).2⟩
theorem St.set0(s:St Z (own b o::l) h):St Z (own b o'::l) ⟨h.objs.set b o',h.next⟩:=by
 obtain⟨D,h1,⟨h2,h3⟩,h4⟩:=s.sep;have hz:Z.objs.get b=none:=Classical.not_not.1 (h1 b ((h2 b).2 rfl)).1;refine⟨λx p e=>?_,s.zlt,D,h1,⟨h2,cA⟩,gZ (h:=h) (av _) (λx _ hx=>?_) h4⟩
 .exact(cl (λhh=>by rw[hh,hz]at e;cases e)).trans (s.frz x p e)
 .exact cl λhh=>hx (.inr ((h2 x).2 hh))
theorem St.set(s:St Z (l++own b o::m) h):St Z (l++own b o'::m) ⟨h.objs.set b o',h.next⟩:=s.pull.set0.push
theorem St.new(s:St Z l h):St Z (own h.next o::l) ⟨h.objs.set h.next o,h.next+1⟩:=by
 have hk:∀x,x<h.next->(h.objs.set h.next o).get x=h.objs.get x:=λx hx=>cl (Nat.ne_of_lt hx);refine⟨λx p e=>(hk x (s.zlt x p e)).trans (s.frz x p e),λx p e=>Nat.lt_succ_of_lt (s.zlt x p e),λx=>x=h.next,λx hx=>?_,⟨λ_=>Iff.rfl,cA⟩,?_⟩
 .have hx:x=h.next:=hx;subst hx;refine⟨λhz=>?_,aq _⟩;cases e:Z.objs.get h.next with
  |none=>exact hz e
  |some p=>exact Nat.lt_irrefl _ (s.zlt _ p e)
 .exact mO (h:=h) (Nat.le_succ _) (λx hx _=>hk x hx) (λx hx hl=>hx.resolve_right (Nat.ne_of_lt hl)) s.sep
theorem St.ne{c:Nat}{o2:AObj}{k:List Asrt}(s:St Z (l++own b o::(m++own c o2::k)) h):b≠c:=by
 obtain⟨D,h1,⟨h2,h3⟩,h4⟩:=s.pull.sep;obtain⟨E,h5,⟨h6,_⟩,_⟩:=xw (l:=l++(m++own c o2::k)) (l':=own c o2::((l++m)++k)) (by rw[<-aC];exact List.perm_middle) h4;intro hh;subst hh;exact(h5 b ((h6 b).2 rfl)).1 (.inr ((h2 b).2 rfl))
theorem St.freeze(s:St Z (own b o::l) h):∃Z',Sub Z Z'/\Z'.objs.get b=some o/\St Z' l h:=by
 obtain⟨D,h1,⟨h2,h3⟩,h4⟩:=s.sep;have hb:=h1 b ((h2 b).2 rfl);have hz:Z.objs.get b=none:=Classical.not_not.1 hb.1;have hzz:Sub Z ⟨Z.objs.set b o,Nat.max Z.next (b+1)⟩:=⟨Nat.le_max_left _ _,λx p e=>(cl (λhh=>by rw[hh,hz]at e;cases e)).trans e⟩;refine⟨⟨Z.objs.set b o,Nat.max Z.next (b+1)⟩,hzz,cA,λx p e=>?_,λx p e=>?_,ni hzz (db (λx hx=>?_) h4)⟩
 .by_cases hx:x=b
  .subst hx;have e:(Z.objs.set x o).get x=some p:=e;rw[cA]at e;rw[h3,e]
  .have e:(Z.objs.set b o).get x=some p:=e;rw[cl hx]at e;exact s.frz x p e
 .by_cases hx:x=b
  .rw[hx];exact hb.2
  .have e:(Z.objs.set b o).get x=some p:=e;rw[cl hx]at e;exact s.zlt x p e
 .by_cases hb':x=b
  .exact .inr ((h2 x).2 hb')
  .have hx:(Z.objs.set b o).get x≠none:=hx;rw[cl hb']at hx;exact .inl hx
end
def d4(Z0:Hp):Asrt:=⟨λZ D _=>(∀x,¬D x)/\Sub Z0 Z,λ_ h=>h,λz h=>⟨h.1,h.2.trans z⟩⟩
def frA(q:Hp->Prop)(m:∀{Z Z':Hp},Sub Z Z'->q Z->q Z'):Asrt:=⟨λZ D _=>(∀x,¬D x)/\q Z,λ_ h=>h,λz h=>⟨h.1,m z h.2⟩⟩
section
variable {Z Z0 h:Hp}{l:List Asrt}
theorem cX{q:Hp->Prop}{m:∀{Z Z':Hp},Sub Z Z'->q Z->q Z'}:St Z (frA q m::l) h↔q Z/\St Z l h:=by
 constructor
 .rintro⟨h1,h2,D,h3,⟨h4,h5⟩,h6⟩;exact⟨h5,h1,h2,db (λ_ hx=>.inl hx) h6⟩
 .rintro⟨q,h1,h2,h6⟩;exact⟨h1,h2,λ_=>False,λ_ hx=>hx.elim,⟨λ_ hx=>hx,q⟩,db (λ_ hx=>hx.resolve_right id) h6⟩
theorem mw:St Z (d4 Z0::l) h↔Sub Z0 Z/\St Z l h:=by
 constructor
 .rintro⟨h1,h2,D,h3,⟨h4,h5⟩,h6⟩;exact⟨h5,h1,h2,db (λ_ hx=>.inl hx) h6⟩
 .rintro⟨q,h1,h2,h6⟩;exact⟨h1,h2,λ_=>False,λ_ hx=>hx.elim,⟨λ_ hx=>hx,q⟩,db (λ_ hx=>hx.resolve_right id) h6⟩
end
section
variable {Z h:Hp}{l:List Asrt}{b:Nat}{o:AObj}
theorem St.putAt(a a':Asrt)(p:Option AObj)(ha:∀D,a.p Z D h->∀x,D x↔x=b)(ha':∀D h',(∀x,D x↔x=b)->h'.objs.get b=p->a'.p Z D h')(s:St Z (a::l) h):b<h.next/\St Z (a'::l) ⟨h.objs.put b p,h.next⟩:=by
 obtain⟨D,h1,h2,h4⟩:=s.sep;have hd:=ha D h2;have hb:=h1 b ((hd b).2 rfl);have hz:Z.objs.get b=none:=Classical.not_not.1 hb.1;refine⟨hb.2,λx q e=>?_,s.zlt,D,h1,ha' D _ hd (by rw[T.get_put,bi rfl]),gZ (h:=h) (av _) (λx _ hx=>?_) h4⟩
 .refine Eq.trans ?_ (s.frz x q e);show(h.objs.put b p).get x=_;rw[T.get_put,bh (λhh=>by rw[hh,hz]at e;cases e)]
 .show(h.objs.put b p).get x=_;rw[T.get_put,bh λhh=>hx (.inr ((hd x).2 hh))]
theorem St.hide(s:St Z (own b o::l) h):St Z (hid b::l) ⟨h.objs.put b none,h.next⟩:=
 (St.putAt (own b o) (hid b) none (λ_ w=>w.1) (λ_ _ hd hg=>⟨hd,hg⟩) s).2
theorem St.show(s:St Z (hid b::l) h):h.objs.get b=none/\b<h.next/\∀o,St Z (own b o::l) ⟨h.objs.put b (some o),h.next⟩:=by
 obtain⟨D,h1,⟨h2,h3⟩,_⟩:=s.sep;exact⟨h3,(h1 b ((h2 b).2 rfl)).2,λo=>(St.putAt (hid b) (own b o) (some o) (λ_ w=>w.1) (λ_ _ hd hg=>⟨hd,hg⟩) s).2⟩
theorem St.ext'{h':Hp}(s:St Z l h)(hn:h.next=h'.next)(hg:∀b,h'.objs.get b=h.objs.get b):St Z l h':=
 ⟨λb o e=>(hg b).trans (s.frz b o e),λb o e=>hn▸s.zlt b o e,gZ (Nat.le_of_eq hn) (λb _ _=>hg b) s.sep⟩
end
inductive MI where
 |blk (n:Nat) (cs:List XV) (e:TypeId)
 |obj (n:Nat) (o:AObj)
 |asr (k:Nat)
def MI.den(ρ:Va):MI->Asrt
 | .blk n cs e=>own (ρ.n n) (.cells (svL ρ cs) e)
 | .obj n o=>own (ρ.n n) o
 | .asr k=>ρ.a k
structure Sy where
 f:T XV
 mem:List MI
 asm:List (X×Bool):=[]
 win:List (Nat×List XV):=[]
 c:Cnt:={}
def opd(f:T XV):Operand->Option XV
 | .tmp t=>f.get t
 | .const v=>some (l7 v)
 | .global g=>some (.lit (.pointer (some ⟨g,0,none⟩)))
 | .func g=>some (.lit (.func (.func g) #[] #[]))
def FM(ρ:Va)(f:T XV)(fr:Fr):Prop:=∀k v,f.get k=some v->fr.ev (.tmp k)=v.sv ρ
theorem FM.opd{ρ:Va}{f:T XV}{fr:Fr}(h:FM ρ f fr){x:Operand}{v:XV}(hv:opd f x=some v):fr.ev x=v.sv ρ:=by
 cases x with
 |tmp t=>exact h t v hv
 |const c=>
  obtain rfl:=ab hv;exact(nf ρ c).symm
 |global g=>
  obtain rfl:=ab hv;rfl
 |func g=>
  obtain rfl:=ab hv;rfl
def pV(e:X):List (X×Bool)->Option Bool
 |[]=>none
 |(a,b)::l=>bif a.same e then some b else pV e l
def X.dec(asm:List (X×Bool)):X->Option Bool
 | .bl b=>some b
 | .not a=>(a.dec asm).map (!·)
 |e=>pV e asm
def AsmOk(ρ:Va)(asm:List (X×Bool)):Prop:=∀x∈asm,(x.1.den ρ).b=x.2
theorem ru{ρ:Va}{e:X}{b:Bool}:∀{l:List (X×Bool)},AsmOk ρ l->pV e l=some b->(e.den ρ).b=b
 |(a,c)::l,h,hf=>by
  unfold pV at hf;cases hs:a.same e with
  |true=>
   rw[hs,bf]at hf;rw[<-X.same_eq _ _ hs,<-ab hf];exact h _ (ak ..)
  |false=>
   rw[hs,bg]at hf;exact ru (λx hx=>h x (am _ hx)) hf
theorem X.dec_ok{ρ:Va}{asm:List (X×Bool)}(h:AsmOk ρ asm):∀(e:X) {b:Bool},e.dec asm=some b->(e.den ρ).b=b:=by
 intro e
 induction e with
 |bl c=>intro b hb;exact ab hb
 |not a ih=>
  intro b hb;simp only[X.dec,aa]at hb;obtain⟨c,hc,rfl⟩:=hb;simp only[X.den,ih hc]
 |_=>intro b hb;exact ru h hb
def Ei(l:List XV)(off n:Nat):Option (List XV):=
 let r:=(l.drop off).take n
 bif Nat.beq r.length n then some r else none
theorem lE{ρ:Va}{l vs:List XV}{off n:Nat}(h:Ei l off n=some vs):cut (svL ρ l) off n=some (svL ρ vs):=by
 have h:(bif Nat.beq ((l.drop off).take n).length n then some ((l.drop off).take n)else none)=some vs:=h;unfold cut;simp only[y9,za,gS];cases hb:Nat.beq ((l.drop off).take n).length n with
 |true=>rw[hb,bf]at h;rw[bf,ab h]
 |false=>rw[hb]at h;cases h
def pH(l:List XV)(off:Nat)(vs:List XV):Option (List XV):=
 bif Nat.ble (off+vs.length) l.length&&vs.all XV.one then some (l.take off++vs++l.drop (off+vs.length))else none
theorem qn{ρ:Va}{l vs r:List XV}{off:Nat}(h:pH l off vs=some r):cH (svL ρ l) off (svL ρ vs)=some (svL ρ r):=by
 unfold pH at h;cases hb:Nat.ble (off+vs.length) l.length&&vs.all XV.one with
 |false=>rw[hb]at h;cases h
 |true=>
  rw[hb,bf]at h;rw[a8]at hb;simp only[cH,gS,hb.1,XV.one_all ρ hb.2,aF,bf,<-ab h,pE,za,y9]
def rj(place:Nat->Option (Nat×Nat))(l:List XV):List (Nat×XV)->Option (List XV)
 |[]=>some l
 |(i,v)::rest=>match place i with
  |none=>none
  |some (off,size)=>bif Nat.beq v.cells.length size then(match pH l off v.cells with
   |some l'=>rj place l' rest
   |none=>none)else none
theorem mV{ρ:Va}{place:Nat->Option (Nat×Nat)}:∀{ps:List (Nat×XV)} {l r:List XV},rj place l ps=some r->kG place (svL ρ l) (ps.map λp=>(p.1,p.2.sv ρ))=some (svL ρ r)
 |[],l,r,h=>by rw[rj,a7]at h;rw[<-h];rfl
 |(i,v)::ps,l,r,h=>by
  simp only[rj]at h;simp only[ax,kG];split at h
  .cases h
  .rename_i off size hp;cases hb:Nat.beq v.cells.length size with
   |false=>rw[hb]at h;cases h
   |true=>
    rw[hb,bf]at h;split at h
    .rename_i l' hs;have e:=qn (ρ:=ρ) hs;rw[XV.cells_sv]at e;simp only[hp,<-XV.cells_sv ρ v,gS,hb,bf];rw[XV.cells_sv,e];exact mV h
    .cases h
def na(P:Program)(t:TypeId)(l:List XV)(off:Nat):Option XV:=
 match e8 P t with
 |some true=>match bI P t with
  |some n=>(Ei l off n).map .agg
  |none=>none
 |some false=>l[off]?
 |none=>none
theorem qu{ρ:Va}{P:Program}{t:TypeId}{l:List XV}{off:Nat}{v:XV}(h:na P t l off=some v):nF P t (svL ρ l) off=some (v.sv ρ):=by
 unfold na at h;unfold nF;split at h
 .rename_i ht;simp only[ht];split at h
  .rename_i n hn;simp only[hn];rw[aa]at h;obtain⟨vs,hvs,rfl⟩:=h;rw[lE hvs];rfl
  .cases h
 .rename_i ht;simp only[ht,lD,h,af]
 .cases h
def getBlk(n:Nat):List MI->Option (List XV×TypeId)
 |[]=>none
 | .blk m cs e::l=>bif Nat.beq n m then some (cs,e)else getBlk n l
 |_::l=>getBlk n l
def getWin(i:Nat):List (Nat×List XV)->Option (List XV)
 |[]=>none
 |(j,cs)::l=>bif Nat.beq i j then some cs else getWin i l
structure Mem(Γ:Glob)(ρ:Va)(S:Sy)(h:Hp):Prop where
 blk:∀n cs e,getBlk n S.mem=some (cs,e)->h.objs.get (ρ.n n)=some (.cells (svL ρ cs) e)
 win:∀i cs,getWin i S.win=some cs->PtrTo Γ h (ρ.r i) (svL ρ cs)
inductive LI where
 |no
 |blk (n off:Nat) (vs:List XV)
 |win (i k:Nat) (vs:List XV)
def LI.facts(ρ:Va):LI->List Fact
 | .no=>[]
 | .blk n off vs=>[.cells (ρ.n n) off (svL ρ vs)]
 | .win i k vs=>mH (ρ.r i) k (svL ρ vs)
inductive QR where
 |ok (v:XV) (vc:List X) (li:LI)
 |fork (e:X)
 |no
def QR.of(v:Option XV):QR:=match v with
 |some v=>.ok v [] .no
 |none=>.no
theorem QR.of_ok{o:Option XV}{v:XV}{vc:List X}{li:LI}(h:QR.of o=.ok v vc li):o=some v/\vc=[]/\li=.no:=by
 cases o with
 |none=>cases h
 |some x=>
  simp only[QR.of,QR.ok.injEq]at h;exact⟨by rw[h.1],h.2.1.symm,h.2.2.symm⟩
def vA(P:Program)(t:TypeId)(cs:List XV)(off:Nat)(li:List XV->LI):QR:=
 match e8 P t with
 |some true=>match bI P t with
  |some n=>match Ei cs off n with
   |some vs=>.ok (.agg vs) [] (li vs)
   |none=>.no
  |none=>.no
 |some false=>match cs[off]? with
  |some v=>.ok v [] (li [v])
  |none=>.no
 |none=>.no
def GV(P:Program)(S:Sy)(t:TypeId)(i k:Nat):QR:=match getWin i S.win with
 |some cs=>vA P t cs k (.win i k)
 |none=>.no
def BP(P:Program)(S:Sy)(t:TypeId)(a:Operand):QR:=match opd S.f a with
 |some (.ptr n off)=>match getBlk n S.mem with
  |some x=>vA P t x.1 off (.blk n off)
  |none=>.no
 |some (.raw i)=>GV P S t i 0
 |some (.pad i k)=>GV P S t i k
 |_=>.no
section
variable {P:Program}{Γ:Glob}{ρ:Va}{S:Sy}{h:Hp}{fr:Fr}
theorem nA{t:TypeId}{cs:List XV}{off:Nat}{li:List XV->LI}{v:XV}{vc:List X}{l:LI}{p:SV}(h1:vA P t cs off li=.ok v vc l)
 (hc:∀w,e8 P t=some false->cs[off]? =some w->dk P Γ h t p=some (w.sv ρ,(li [w]).facts ρ)) (hs:∀n vs,e8 P t=some true->bI P t=some n->Ei cs off n=some vs->dk P Γ h t p=some (.agg (svL ρ vs),(li vs).facts ρ)):dk P Γ h t p=some (v.sv ρ,l.facts ρ):=by
 unfold vA at h1;split at h1
 .rename_i ht;split at h1
  .rename_i n hn;split at h1
   .rename_i vs hvs;simp only[QR.ok.injEq]at h1;obtain⟨rfl,_,rfl⟩:=h1;exact hs n vs ht hn hvs
   .cases h1
  .cases h1
 .rename_i ht;split at h1
  .rename_i w hw;simp only[QR.ok.injEq]at h1;obtain⟨rfl,_,rfl⟩:=h1;exact hc w ht hw
  .cases h1
 .cases h1
theorem r5{t:TypeId}{i k:Nat}{v:XV}{vc:List X}{l:LI}(hm:Mem Γ ρ S h)(h1:GV P S t i k=.ok v vc l):dk P Γ h t (gA (ρ.r i) k)=some (v.sv ρ,l.facts ρ):=by
 unfold GV at h1;split at h1
 .rename_i cs hcs;have w:=hm.win i cs hcs;exact nA h1 (λx ht hx=>wj ht w (by rw[lD,hx];rfl)) λn vs ht hn hvs=>MQ ht hn w (lE hvs)
 .cases h1
theorem po{t:TypeId}{a:Operand}{v:XV}{vc:List X}{l:LI}(hf:FM ρ S.f fr)(hm:Mem Γ ρ S h)(h1:BP P S t a=.ok v vc l):dk P Γ h t (fr.ev a)=some (v.sv ρ,l.facts ρ):=by
 unfold BP at h1;split at h1
 .rename_i n off ha;split at h1
  .rename_i x hx;have hb:=hm.blk n x.1 x.2 hx;rw[hf.opd ha];refine nA h1 (λw ht hw=>?_) λm vs ht hn hvs=>?_
   .have e:cut (svL ρ x.1) off 1=some [w.sv ρ]:=vu (by rw[lD,hw];rfl);simp only[XV.sv,dk,ht,bF,knownCells,hb,ay,e];rfl
   .simp only[XV.sv,dk,ht,hn,bF,knownCells,hb,ay,lE hvs];rfl
  .cases h1
 .rename_i i ha;rw[hf.opd ha];have:=r5 hm h1;have hw:getWin i S.win≠none:=λhh=>by unfold GV at h1;rw[hh]at h1;cases h1
  obtain⟨cs,hcs⟩:=Option.ne_none_iff_exists'.1 hw
  rwa [td (hm.win i cs hcs)]at this
 .rename_i i k ha;rw[hf.opd ha];exact r5 hm h1
 .cases h1
def Bq(S:Sy)(v:XV)(n:Nat):Option XV:=match v with
 | .ptr b off=>some (.ptr b (off+n))
 | .raw i=>match getWin i S.win with
   |some _=>some (.pad i n)
   |none=>none
 | .pad i k=>match getWin i S.win with
   |some _=>some (.pad i (k+n))
   |none=>none
 |_=>none
theorem sR{p:SV}{cs:List SV}(w:PtrTo Γ h p cs)(k n:Nat):kJ (gA p k) n=some (gA p (k+n)):=by
 refine w.cases (C:=λp=>kJ (gA p k) n=some (gA p (k+n))) (λb o=>?_) λg o=>?_
 .simp only[gA,kJ,Nat.add_assoc]
 .simp only[gA,kJ,Nat.add_assoc]
theorem oU{v w:XV}{n:Nat}(hm:Mem Γ ρ S h)(h1:Bq S v n=some w):kJ (v.sv ρ) n=some (w.sv ρ):=by
 unfold Bq at h1;split at h1
 .obtain rfl:=ab h1;rfl
 .rename_i i;split at h1
  .rename_i cs hcs;obtain rfl:=ab h1;have:=sR (hm.win i cs hcs) 0 n;rw[td (hm.win i cs hcs),aX]at this;exact this
  .cases h1
 .rename_i i k;split at h1
  .rename_i cs hcs;obtain rfl:=ab h1;exact sR (hm.win i cs hcs) k n
  .cases h1
 .cases h1
def me(P:Program)(S:Sy)(s:TypeId)(x:Operand)(i:Nat):Option XV:=
 match tyU P s,opd S.f x with
 |some (.struct fields),some v=>match fields[i]? with
  |some f=>match bI P f.type with
   |some (_+1)=>Bq S v f.offset
   |_=>none
  |none=>none
 |_,_=>none
theorem nZ{s:TypeId}{x:Operand}{i:Nat}{w:XV}(hf:FM ρ S.f fr)(hm:Mem Γ ρ S h)(h1:me P S s x i=some w):dv P s (fr.ev x) i=some (w.sv ρ):=by
 unfold me at h1;split at h1
 .rename_i fields v hs hx;split at h1
  .rename_i f hfi;split at h1
   .rename_i n hn;rw[hf.opd hx];simp only[dv,hs,hfi,hn];exact oU hm h1
   .cases h1
  .cases h1
 .cases h1
def vJ:XV->Option Nat
 | .int _ (.z (.ofNat i))=>some i
 |_=>none
def mE(P:Program)(S:Sy)(t:TypeId)(x i:Operand):Option XV:=
 match tyU P t,opd S.f x,(opd S.f i).bind vJ with
 |some (.array len e),some v,some k=>match bI P e with
  |some s=>bif Nat.blt k len then Bq S v (k*s)else none
  |none=>none
 |some (.slice e),some (.slice b off len _),some k=>match bI P e with
  |some s=>bif Nat.blt k len then some (.ptr b (off+k*s))else none
  |none=>none
 |_,_,_=>none
theorem oN{v:XV}{k:Nat}(h1:vJ v=some k)(len:Nat)(hk:Nat.blt k len=true):ou (v.sv ρ) len=some k:=by
 unfold vJ at h1;split at h1
 .obtain rfl:=ab h1;simp only[XV.sv,X.den,ou,hk,bf]
 .cases h1
theorem oy{t:TypeId}{x i:Operand}{w:XV}(hf:FM ρ S.f fr)(hm:Mem Γ ρ S h)(h1:mE P S t x i=some w):bT P t (fr.ev x) (fr.ev i)=some (w.sv ρ):=by
 unfold mE at h1;split at h1
 .rename_i len e v k ht hx hi;split at h1
  .rename_i s hs;obtain⟨y,hy,hk⟩:=aJ.1 hi;cases hb:Nat.blt k len with
   |false=>rw[hb]at h1;cases h1
   |true=>
    rw[hb,bf]at h1;rw[hf.opd hx,hf.opd hy];simp only[bT,ht,hs,oN hk len hb];exact oU hm h1
  .cases h1
 .rename_i e b off len cap k ht hx hi;split at h1
  .rename_i s hs;obtain⟨y,hy,hk⟩:=aJ.1 hi;cases hb:Nat.blt k len with
   |false=>rw[hb]at h1;cases h1
   |true=>
    rw[hb,bf]at h1;obtain rfl:=ab h1;rw[hf.opd hx,hf.opd hy];simp only[XV.sv,bT,ht,hs,oN hk len hb]
  .cases h1
 .cases h1
def Bg(P:Program)(S:Sy)(t:TypeId)(x:Operand)(i:Nat):Option XV:=
 match tyU P t,opd S.f x with
 |some (.struct fields),some (.agg l)=>match fields[i]? with
  |some f=>na P f.type l f.offset
  |none=>none
 |some (.struct fields),some (.lit (.agg cs))=>match fields[i]? with
  |some f=>na P f.type (cs.toList.map l7) f.offset
  |none=>none
 |_,_=>none
theorem vf{t:TypeId}{x:Operand}{i:Nat}{w:XV}(hf:FM ρ S.f fr)(h1:Bg P S t x i=some w):quiet P Γ h fr.ev (.field t x i)=some (w.sv ρ,[]):=by
 unfold Bg at h1;split at h1
 .rename_i fields l ht hx;split at h1
  .rename_i f hfi;simp only[quiet,ht,hfi,hf.opd hx,XV.sv];rw[qu h1];rfl
  .cases h1
 .rename_i fields cs ht hx;split at h1
  .rename_i f hfi;simp only[quiet,ht,hfi,hf.opd hx,XV.sv];rw[<-lN ρ,qu h1];rfl
  .cases h1
 .cases h1
def qx(S:Sy)(x:Operand)(i:Nat):Option XV:=match opd S.f x with
 |some (.tup l)=>l[i]?
 |some (.lit (.tuple vs))=>(vs[i]?).map l7
 |_=>none
theorem rh{x:Operand}{i:Nat}{w:XV}(hf:FM ρ S.f fr)(h1:qx S x i=some w):quiet P Γ h fr.ev (.extract x i)=some (w.sv ρ,[]):=by
 unfold qx at h1;split at h1
 .rename_i l hx;simp only[quiet,hf.opd hx,XV.sv,lD,h1,one,af]
 .rename_i vs hx;rw[aa]at h1;obtain⟨v,hv,rfl⟩:=h1;simp only[quiet,hf.opd hx,XV.sv,hv,one,af,nf]
 .cases h1
def El(f:T XV):List (Nat×Operand)->Option (List (Nat×XV))
 |[]=>some []
 |(i,x)::l=>match opd f x,El f l with
  |some v,some r=>some ((i,v)::r)
  |_,_=>none
theorem pD(hf:FM ρ S.f fr):∀{l:List (Nat×Operand)} {r:List (Nat×XV)},El S.f l=some r->(l.map λp=>(p.1,fr.ev p.2))=r.map λp=>(p.1,p.2.sv ρ)
 |[],r,h1=>by rw[El,a7]at h1;rw[<-h1];rfl
 |(i,x)::l,r,h1=>by
  unfold El at h1;split at h1
  .rename_i v r' hv hr;obtain rfl:=ab h1;rw[ax,ax,hf.opd hv,pD hf hr]
  .cases h1
def iG(f:T XV):List Operand->Option (List XV)
 |[]=>some []
 |x::l=>match opd f x,iG f l with
  |some v,some r=>some (v::r)
  |_,_=>none
theorem pG(hf:FM ρ S.f fr):∀{l:List Operand} {r:List XV},iG S.f l=some r->l.map fr.ev=svL ρ r
 |[],r,h1=>by rw[iG,a7]at h1;rw[<-h1];rfl
 |x::l,r,h1=>by
  unfold iG at h1;split at h1
  .rename_i v r' hv hr;obtain rfl:=ab h1;rw[ax,svL,hf.opd hv,pG hf hr]
  .cases h1
def zD(P:Program)(S:Sy)(t:TypeId)(parts:List (Nat×Operand)):Option XV:=
 match dB P t,tyU P t,El S.f parts with
 |some z,some (.struct fields),some ps=>match n7 P fields.toList with
  |some places=>(rj (places[·]?) (XV.cells (.lit z)) ps).map .agg
  |none=>none
 |some z,some (.array _ e),some ps=>match bI P e with
  |some size=>(rj (λi=>some (i*size,size)) (XV.cells (.lit z)) ps).map .agg
  |none=>none
 |_,_,_=>none
theorem wn{t:TypeId}{parts:Array (Nat×Operand)}{w:XV}(hf:FM ρ S.f fr)(h1:zD P S t parts.toList=some w):quiet P Γ h fr.ev (.build t parts)=some (w.sv ρ,[]):=by
 have hc:∀z,svL ρ (XV.cells (.lit z))=SV.cells (.lit z):=λz=>XV.cells_sv ρ (.lit z);unfold zD at h1;split at h1
 .rename_i z fields ps hz ht hps;split at h1
  .rename_i places hpl;rw[aa]at h1;obtain⟨l,hl,rfl⟩:=h1;have:=mV (ρ:=ρ) hl;rw[hc]at this;simp only[quiet,mI,hz,ht,hpl,pD hf hps,this,af,one];rfl
  .cases h1
 .rename_i z n e ps hz ht hps;split at h1
  .rename_i size hsz;rw[aa]at h1;obtain⟨l,hl,rfl⟩:=h1;have:=mV (ρ:=ρ) hl;rw[hc]at this;simp only[quiet,mI,hz,ht,hsz,pD hf hps,this,af,one];rfl
  .cases h1
 .cases h1
end
def xlt:X->X->X
 | .z a,.z b=>.bl (decide (a<b))
 |a,b=>.lt a b
def xle:X->X->X
 | .z a,.z b=>.bl (decide (a<=b))
 |a,b=>.le a b
def xeq:X->X->X
 | .z a,.z b=>.bl (decide (a=b))
 |a,b=>.eq a b
def vM:X->X
 | .bl b=>.bl (!b)
 | .not a=>a
 |a=>.not a
def Ic:X->X->X
 | .tl a,.tl b=>.bl (gR a b)
 |a,b=>.teq a b
def Fy:X->X->X
 | .bl a,.bl b=>.bl (a==b)
 |a,.bl true=>a
 | .bl true,b=>b
 |a,.bl false=>vM a
 | .bl false,b=>vM b
 |a,b=>.beq a b
def A3:X->X
 | .tl l=>.z l.length
 |a=>.len a
theorem La(ρ:Va)(a b:X):((xlt a b).den ρ).b=decide ((a.den ρ).i<(b.den ρ).i):=by
 unfold xlt;split<;>rfl
theorem KK(ρ:Va)(a b:X):((xle a b).den ρ).b=decide ((a.den ρ).i<=(b.den ρ).i):=by
 unfold xle;split<;>rfl
theorem GM(ρ:Va)(a b:X):((xeq a b).den ρ).b=decide ((a.den ρ).i=(b.den ρ).i):=by
 unfold xeq;split<;>rfl
theorem mA(ρ:Va)(a:X):((vM a).den ρ).b= !(a.den ρ).b:=by
 unfold vM;split
 .rfl
 .simp only[X.den,Bool.not_not]
 .rfl
theorem yP:∀l m:bn,gR l m=decide (l=m):=λl m=>by
 cases h:gR l m with
 |true=>rw[bd (mg h)]
 |false=>
  refine(bc λe=>?_).symm;subst e;have:∀l:bn,gR l l=true:=λl=>by
   induction l with
   |nil=>rfl
   |cons a l ih=>simp only[gR,ih,Bool.and_true];exact fl rfl
  rw[this]at h;cases h
theorem Ad(ρ:Va)(a b:X):((Ic a b).den ρ).b=decide ((a.den ρ).t=(b.den ρ).t):=by
 unfold Ic;split
 .exact yP _ _
 .rfl
theorem zN(ρ:Va)(a b:X):((Fy a b).den ρ).b=((a.den ρ).b==(b.den ρ).b):=by
 unfold Fy;split
 .rfl
 .simp only[X.den];cases(a.den ρ).b<;>rfl
 .simp only[X.den];cases(b.den ρ).b<;>rfl
 .rw[mA];simp only[X.den];cases(a.den ρ).b<;>rfl
 .rw[mA];simp only[X.den];cases(b.den ρ).b<;>rfl
 .rfl
theorem rn(ρ:Va)(a:X):((A3 a).den ρ).i=((a.den ρ).t.length:Int):=by
 unfold A3;split<;>rfl
def ES(k:IntKind)(e:X):X:=.and (.le (.z (lo k)) e) (.lt e (.z (hi k)))
def isU:IntKind->Bool
 | .u8| .u16| .u32| .u64=>true
 |_=>false
def uY(k:IntKind)(e:X):QR:=match e with
 | .z n=>bif decide (lo k<=n)&&decide (n<hi k)then .ok (.int k (.z n)) [] .no else .no
 |e=>bif isU k then .ok (.int k (.wr k e)) [] .no else .ok (.int k e) [ES k e] .no
def M3:X->X->X
 | .z a,.z b=>.z (a+b)
 |a,b=>.add a b
def J2:X->X->X
 | .z a,.z b=>.z (a-b)
 |a,b=>.sub a b
def NU:X->X->X
 | .z a,.z b=>.z (a*b)
 |a,b=>.mul a b
theorem Ll(ρ:Va)(a b:X):((M3 a b).den ρ).i=(a.den ρ).i+(b.den ρ).i:=by
 unfold M3;split<;>rfl
theorem Fs(ρ:Va)(a b:X):((J2 a b).den ρ).i=(a.den ρ).i-(b.den ρ).i:=by
 unfold J2;split<;>rfl
theorem M8(ρ:Va)(a b:X):((NU a b).den ρ).i=(a.den ρ).i*(b.den ρ).i:=by
 unfold NU;split<;>rfl
theorem vF{ρ:Va}{k:IntKind}{e:X}{v:XV}{vc:List X}{li:LI}(h1:uY k e=.ok v vc li)(hv:∀x∈vc,x.prop ρ):v.sv ρ=.lit (.int k (k.wrap (e.den ρ).i))/\li=.no:=by
 unfold uY at h1;split at h1
 .rename_i n;cases hb:decide (lo k<=n)&&decide (n<hi k)with
  |false=>rw[hb]at h1;cases h1
  |true=>
   rw[hb,bf]at h1;simp only[a8,ba]at hb;simp only[QR.ok.injEq]at h1;obtain⟨rfl,_,rfl⟩:=h1;exact⟨by simp only[XV.sv,X.den,Cj k hb.1 hb.2],rfl⟩
 .cases hu:isU k with
  |true=>
   rw[hu,bf]at h1;simp only[QR.ok.injEq]at h1;obtain⟨rfl,_,rfl⟩:=h1;exact⟨rfl,rfl⟩
  |false=>
   rw[hu,bg]at h1;simp only[QR.ok.injEq]at h1;obtain⟨rfl,rfl,rfl⟩:=h1;have:=hv _ (aQ _);simp only[ES,X.prop,X.den]at this;exact⟨by simp only[XV.sv,Cj k this.1 this.2],rfl⟩
def Fk(op:BinOp)(k:IntKind)(a b:X):QR:=match op with
 | .eql=>.ok (.bool (xeq a b)) [] .no
 | .neq=>.ok (.bool (vM (xeq a b))) [] .no
 | .lss=>.ok (.bool (xlt a b)) [] .no
 | .leq=>.ok (.bool (xle a b)) [] .no
 | .gtr=>.ok (.bool (xlt b a)) [] .no
 | .geq=>.ok (.bool (xle b a)) [] .no
 | .add=>uY k (M3 a b)
 | .sub=>uY k (J2 a b)
 | .mul=>uY k (NU a b)
 | .quo=>match b with
   | .z n=>bif decide (0<n)then uY k (.quo a b)else .no
   |_=>.no
 | .rem=>match b with
   | .z n=>bif decide (0<n)then .ok (.int k (.rem a b)) [] .no else .no
   |_=>.no
 |_=>.no
def Ap(op:BinOp)(a b:X):QR:=match op with
 | .eql=>.ok (.bool (Ic a b)) [] .no
 | .neq=>.ok (.bool (vM (Ic a b))) [] .no
 | .add=>.ok (.txt (.cat a b)) [.le (.add (.len a) (.len b)) (.z 9223372036854775807)] .no
 |_=>.no
def fR(d:TypeDesc):XV->Bool
 | .lit (.pointer none)=>match d with
   | .pointer _=>true
   |_=>false
 | .lit (.map none)=>match d with
   | .map _ _=>true
   |_=>false
 | .lit .nilFunc=>match d with
   | .func _ _ _=>true
   |_=>false
 | .lit (.slice none _ _)=>match d with
   | .slice _=>true
   |_=>false
 |_=>false
def notNil(S:Sy)(left:Bool)(d:TypeDesc):XV->Bool
 | .ptr _ _=>match d with
   | .pointer _=>true
   |_=>false
 | .raw i=>match d with
   | .pointer _=>(getWin i S.win).isSome
   |_=>false
 | .map _=>match d with
   | .map _ _=>true
   |_=>false
 | .fn _ _ _=>match d with
   | .func _ _ _=>left
   |_=>false
 | .slice _ _ _ _=>match d with
   | .slice _=>true
   |_=>false
 |_=>false
def pO:XV->Option Value
 | .int k (.z n)=>some (.int k n)
 | .bool (.bl b)=>some (.bool b)
 | .txt (.tl l)=>some (.string ⟨⟨l⟩⟩)
 | .lit v=>some v
 |_=>none
theorem qX{ρ:Va}{v:XV}{x:Value}(h:pO v=some x):v.sv ρ=.lit x:=by
 unfold pO at h;split at h<;>first|(cases h;done)|(obtain rfl:=ab h;rfl)
def NM:SV->Option XV
 | .lit v=>some (l7 v)
 |_=>none
theorem Iw{ρ:Va}{s:SV}{v:XV}(h:NM s=some v):v.sv ρ=s:=by
 unfold NM at h;split at h
 .obtain rfl:=ab h;exact nf ρ _
 .cases h
def HH(P:Program)(S:Sy)(op:BinOp)(t:TypeId)(xo yo:Operand)(x y:XV):QR:=
 match pO x,pO y with
 |some a,some b=>.of ((binQ P op t xo yo (.lit a) (.lit b)).bind NM)
 |_,_=>match tyU P t with
  |some d=>bif(notNil S true d x&&fR d y)||(fR d x&&notNil S false d y)then(match op with
   | .eql=>.ok (.bool (.bl false)) [] .no
   | .neq=>.ok (.bool (.bl true)) [] .no
   |_=>.no)else .no
  |none=>.no
def Nq(P:Program)(S:Sy)(op:BinOp)(t:TypeId)(xo yo:Operand):QR:=
 match opd S.f xo,opd S.f yo with
 |some (.int k a),some (.int k' b)=>bif decide (k=k')then Fk op k a b else .no
 |some (.txt a),some (.txt b)=>Ap op a b
 |some (.bool a),some (.bool b)=>match tyU P t,op with
  |some .bool,.eql=>.ok (.bool (Fy a b)) [] .no
  |some .bool,.neq=>.ok (.bool (vM (Fy a b))) [] .no
  |_,_=>.no
 |some x,some y=>HH P S op t xo yo x y
 |_,_=>.no
section
variable {P:Program}{Γ:Glob}{ρ:Va}{S:Sy}{h:Hp}{fr:Fr}
theorem dH{op:BinOp}{t:TypeId}{xo yo:Operand}{a b v:Value}(hg:pureRun P (eqGuard op t xo yo a b)=some ())(hb:pureRun P (binOp op t a b)=some v):binQ P op t xo yo (.lit a) (.lit b)=some (.lit v):=by
 have e:pureRun P (do eqGuard op t xo yo a b;binOp op t a b)=some v:=by
  show pureRun P (eqGuard op t xo yo a b>>=λ_=>binOp op t a b)=_;rw[run_bind,hg];exact hb
 simp only[binQ,SV.toLit,e,af]
theorem jZ{op:BinOp}{t:TypeId}{xo yo:Operand}{k k':IntKind}{a b:Int}:pureRun P (eqGuard op t xo yo (.int k a) (.int k' b))=some ():=by cases op<;>rfl
theorem og{op:BinOp}{t:TypeId}{xo yo:Operand}{a b:ByteArray}:pureRun P (eqGuard op t xo yo (.string a) (.string b))=some ():=by cases op<;>rfl
theorem qI{op:BinOp}{t:TypeId}{xo yo:Operand}{a b:Bool}:pureRun P (eqGuard op t xo yo (.bool a) (.bool b))=some ():=by cases op<;>rfl
theorem Iv{op:BinOp}{t:TypeId}{xo yo:Operand}{k:IntKind}{a b:Int}{r:Bool}(h1:pureRun P (binOp op t (.int k a) (.int k b))=some (.bool r)){e:X}(he:(e.den ρ).b=r):binQ P op t xo yo (.lit (.int k a)) (.lit (.int k b))=some ((XV.bool e).sv ρ):=by
 rw[dH jZ h1];simp only[XV.sv,he]
theorem Bi{op:BinOp}{t:TypeId}{k:IntKind}{a b:Int}{r:Option Value}(h1:pureRun P (if k≠k then stuck "BinOp: operands of different kinds" else
 match op with
 | .add| .sub| .mul=>Op.intArith op k a b
 | .quo| .rem=>Op.intDiv op k a b
 | .and| .or| .xor| .andNot=>Op.intBits op k a b
 |_=>Op.intCmp op a b)=r) (hs:op≠.shl/\op≠.shr):pureRun P (binOp op t (.int k a) (.int k b))=r:=by
 rw[<-h1];cases op<;>first|rfl|exact absurd rfl hs.1|exact absurd rfl hs.2
theorem xW{op:BinOp}{t:TypeId}{xo yo:Operand}{k:IntKind}{a b:X}{v:XV}{vc:List X}{li:LI}(h1:Fk op k a b=.ok v vc li)(hv:∀x∈vc,x.prop ρ):
 binQ P op t xo yo (.lit (.int k (a.den ρ).i)) (.lit (.int k (b.den ρ).i))=some (v.sv ρ)/\li=.no:=by
 have num:∀(e:X) (z:Int),uY k e=.ok v vc li->(e.den ρ).i=z->pureRun P (binOp op t (.int k (a.den ρ).i) (.int k (b.den ρ).i))=some (.int k (k.wrap z))->binQ P op t xo yo (.lit (.int k (a.den ρ).i)) (.lit (.int k (b.den ρ).i))=some (v.sv ρ)/\li=.no:=λe z hq he hr=>by
  obtain⟨e1,e2⟩:=vF hq hv;rw[dH jZ hr,e1,he];exact⟨rfl,e2⟩
 have cmp:∀(e:X) (r:Bool),QR.ok (.bool e) [] .no=.ok v vc li->(e.den ρ).b=r->pureRun P (binOp op t (.int k (a.den ρ).i) (.int k (b.den ρ).i))=some (.bool r)->binQ P op t xo yo (.lit (.int k (a.den ρ).i)) (.lit (.int k (b.den ρ).i))=some (v.sv ρ)/\li=.no:=λe r hq he hr=>by
  simp only[QR.ok.injEq]at hq;obtain⟨rfl,_,rfl⟩:=hq;exact⟨Iv hr he,rfl⟩
 have red:∀{r:Option Value},(op≠.shl/\op≠.shr)->pureRun P (match op with
  | .add| .sub| .mul=>Op.intArith op k (a.den ρ).i (b.den ρ).i
  | .quo| .rem=>Op.intDiv op k (a.den ρ).i (b.den ρ).i
  | .and| .or| .xor| .andNot=>Op.intBits op k (a.den ρ).i (b.den ρ).i
  |_=>Op.intCmp op (a.den ρ).i (b.den ρ).i)=r->pureRun P (binOp op t (.int k (a.den ρ).i) (.int k (b.den ρ).i))=r:=λhs hr=>Bi (by rw[bh (λhh=>hh rfl)];exact hr) hs
 have ns:∀{o:BinOp},o=.eql\/o=.neq\/o=.lss\/o=.leq\/o=.gtr\/o=.geq\/o=.add\/o=.sub\/o=.mul\/o=.quo\/o=.rem->o≠.shl/\o≠.shr:=λ{o} ho=>by
  rcases ho with rfl|rfl|rfl|rfl|rfl|rfl|rfl|rfl|rfl|rfl|rfl<;>exact⟨λe=>(by cases e),λe=>by cases e⟩
 unfold Fk at h1;split at h1
 .exact cmp _ _ h1 (GM ρ a b) (red (ns (by simp)) (by show some (Value.bool (_==_))=_;rw[zU]))
 .exact cmp _ _ h1 ((mA ρ _).trans (congrArg _ (GM ρ a b))) (red (ns (by simp)) (by show some (Value.bool (!(_==_)))=_;rw[zU]))
 .exact cmp _ _ h1 (La ρ a b) (red (ns (by simp)) rfl)
 .exact cmp _ _ h1 (KK ρ a b) (red (ns (by simp)) rfl)
 .exact cmp _ _ h1 (La ρ b a) (red (ns (by simp)) rfl)
 .exact cmp _ _ h1 (KK ρ b a) (red (ns (by simp)) rfl)
 .exact num _ _ h1 (Ll ρ a b) (red (ns (by simp)) rfl)
 .exact num _ _ h1 (Fs ρ a b) (red (ns (by simp)) rfl)
 .exact num _ _ h1 (M8 ρ a b) (red (ns (by simp)) rfl)
 .split at h1
  .rename_i n;cases hb:decide (0<n)with
   |false=>rw[hb]at h1;cases h1
   |true=>
    rw[hb,bf]at h1;have hn:n≠0:=λe=>by subst e;cases hb
    exact num _ _ h1 rfl (red (ns (by simp)) (by show pureRun P (Op.intDiv .quo k (a.den ρ).i n)=_;simp only[Op.intDiv,bh hn];rfl))
  .cases h1
 .split at h1
  .rename_i n;cases hb:decide (0<n)with
   |false=>rw[hb]at h1;cases h1
   |true=>
    rw[hb,bf]at h1;have hn:n≠0:=λe=>by subst e;cases hb
    simp only[QR.ok.injEq]at h1;obtain⟨rfl,_,rfl⟩:=h1;refine⟨?_,rfl⟩;rw[dH jZ (red (ns (by simp)) (by show pureRun P (Op.intDiv .rem k (a.den ρ).i n)=_;simp only[Op.intDiv,bh hn];rfl))];rfl
  .cases h1
 .cases h1
theorem uS{op:BinOp}{t:TypeId}{xo yo:Operand}{a b:X}{v:XV}{vc:List X}{li:LI}(h1:Ap op a b=.ok v vc li)(hv:∀x∈vc,x.prop ρ):
 binQ P op t xo yo (.lit (.string ⟨⟨(a.den ρ).t⟩⟩)) (.lit (.string ⟨⟨(b.den ρ).t⟩⟩))=some (v.sv ρ)/\li=.no:=by
 have teq:∀l m:bn,(l==m)=decide (l=m):=λl m=>by by_cases h:l=m<;>simp[h]
 unfold Ap at h1;split at h1
 .simp only[QR.ok.injEq]at h1;obtain⟨rfl,_,rfl⟩:=h1;refine⟨?_,rfl⟩;rw[dH og (v:=.bool ((⟨⟨(a.den ρ).t⟩⟩:ByteArray).toList==(⟨⟨(b.den ρ).t⟩⟩:ByteArray).toList)) rfl,iI,iI,teq];simp only[XV.sv,Ad]
 .simp only[QR.ok.injEq]at h1;obtain⟨rfl,_,rfl⟩:=h1;refine⟨?_,rfl⟩;rw[dH og (v:=.bool (!((⟨⟨(a.den ρ).t⟩⟩:ByteArray).toList==(⟨⟨(b.den ρ).t⟩⟩:ByteArray).toList))) rfl,iI,iI,teq];simp only[XV.sv,mA,Ad]
 .simp only[QR.ok.injEq]at h1;obtain⟨rfl,rfl,rfl⟩:=h1;have hle:=hv _ (aQ _);simp only[X.prop,X.den]at hle;refine⟨?_,rfl⟩;have hs:∀l:bn,(⟨⟨l⟩⟩:ByteArray).size=l.length:=λ_=>rfl;have hm:IntKind.i64.max=9223372036854775807:=by decide
  rw[dH og (v:=.string ⟨⟨(a.den ρ).t++(b.den ρ).t⟩⟩)]
  .rfl
  .show pureRun P (if(((⟨⟨(a.den ρ).t⟩⟩:ByteArray).size+(⟨⟨(b.den ρ).t⟩⟩:ByteArray).size:Nat):Int)>IntKind.i64.max then unsupported (.resourceLimit "string concatenation: a sum of the lengths that is no int")else pure (Value.string (⟨⟨(a.den ρ).t⟩⟩++⟨⟨(b.den ρ).t⟩⟩)))=_;rw[bh (by rw[hs,hs,hm];omega)];show some (Value.string _)=_;congr 2
 .cases h1
theorem oE{t:TypeId}{d:TypeDesc}{x y:Value}{b:Bool}(_ht:tyU P t=some d)(h1:pureRun P (Op.equal t x y)=some b):pureRun P (do pure (Value.bool (<-Op.equal t x y)):Sem Value)=some (.bool b)/\pureRun P (do pure (Value.bool (!(<-Op.equal t x y))):Sem Value)=some (.bool !b):=by
 clear _ht;constructor
 .show pureRun P (Op.equal t x y>>=λr=>pure (Value.bool r))=_;rw[run_bind,h1];rfl
 .show pureRun P (Op.equal t x y>>=λr=>pure (Value.bool !r))=_;rw[run_bind,h1];rfl
theorem oO{t:TypeId}{d:TypeDesc}{x y:Value}{r:Option Bool}(ht:tyU P t=some d)(h1:pureRun P (match d,x,y with
 | .bool,.bool a,.bool b=>(pure (a==b):Sem Bool)
 | .pointer _,.pointer _,.pointer none=>pure false
 | .pointer _,.pointer none,.pointer b=>pure b.isNone
 |_,_,_=>stuck "")=r) (hd:(d=.bool/\∃a b,x=.bool a/\y=.bool b)\/(∃e,d=.pointer e/\((∃a,x=.pointer (some a)/\y=.pointer none)\/∃a,x=.pointer none/\y=.pointer (some a)))):pureRun P (Op.equal t x y)=r:=by
 show pureRun P (underlying t>>=λd=>_)=_;rw[fb ht];rcases hd with⟨rfl,a,b,rfl,rfl⟩|⟨e,rfl,⟨a,rfl,rfl⟩|⟨a,rfl,rfl⟩⟩
 .exact h1
 .exact h1
 .exact h1
theorem pt{op:BinOp}{t:TypeId}{xo yo:Operand}{a b:Bool}(ht:tyU P t=some .bool)(ho:op=.eql\/op=.neq):binQ P op t xo yo (.lit (.bool a)) (.lit (.bool b))=some (.lit (.bool (if op=.eql then a==b else !(a==b)))):=by
 have he:pureRun P (Op.equal t (.bool a) (.bool b))=some (a==b):=oO ht rfl (.inl ⟨rfl,a,b,rfl,rfl⟩);rcases ho with rfl|rfl
 .rw[dH qI (oE ht he).1];rfl
 .rw[dH qI (oE ht he).2];rfl
theorem rM{op:BinOp}{t:TypeId}{d:TypeDesc}{xo yo:Operand}{x y:XV}(hm:Mem Γ ρ S h)(ht:tyU P t=some d)(hx:((notNil S true d x&&fR d y)||(fR d x&&notNil S false d y))=true)(ho:op=.eql\/op=.neq):
 binQ P op t xo yo (x.sv ρ) (y.sv ρ)=some (.lit (.bool (if op=.eql then false else true))):=by
 have fin:∀sx sy:SV,(sx.toLit=none\/sy.toLit=none)->eZ P t sx sy=some false->binQ P op t xo yo sx sy=some (.lit (.bool (if op=.eql then false else true))):=λsx sy hn hr=>by
  rcases ho with rfl|rfl
  all_goals
   unfold binQ;rcases hn with hn|hn
   .rw[hn];simp only[hr,af];rfl
   .rw[hn];cases sx.toLit<;>simp only[hr,af]<;>rfl
 have glob:∀(g o:Nat) (e:TypeId),d=.pointer e->binQ P op t xo yo (.lit (.pointer (some ⟨g,o,none⟩))) (.lit (.pointer none))=some (.lit (.bool (if op=.eql then false else true)))/\binQ P op t xo yo (.lit (.pointer none)) (.lit (.pointer (some ⟨g,o,none⟩)))=some (.lit (.bool (if op=.eql then false else true))):=λg o e hd=>by
  subst hd;have h1:pureRun P (Op.equal t (.pointer (some ⟨g,o,none⟩)) (.pointer none))=some false:=oO ht rfl (.inr ⟨e,rfl,.inl ⟨_,rfl,rfl⟩⟩);have h2:pureRun P (Op.equal t (.pointer none) (.pointer (some ⟨g,o,none⟩)))=some false:=oO ht rfl (.inr ⟨e,rfl,.inr ⟨_,rfl,rfl⟩⟩);rcases ho with rfl|rfl
  .exact⟨dH rfl (oE ht h1).1,dH rfl (oE ht h2).1⟩
  .exact⟨dH rfl (oE ht h1).2,dH rfl (oE ht h2).2⟩
 have key:∀(lf:Bool) (u w:XV),notNil S lf d u=true->fR d w=true->(lf=true->binQ P op t xo yo (u.sv ρ) (w.sv ρ)=some (.lit (.bool (if op=.eql then false else true))))/\(lf=false->binQ P op t xo yo (w.sv ρ) (u.sv ρ)=some (.lit (.bool (if op=.eql then false else true)))):=λlf u w hu hw=>by
  unfold notNil at hu;split at hu
  .split at hu
   .rename_i e;unfold fR at hw;split at hw<;>first|(cases hw;done)|skip
    exact⟨λ_=>fin _ _ (.inl rfl) (by simp only[XV.sv,eZ,ht]),λ_=>fin _ _ (.inr rfl) (by simp only[XV.sv,eZ,ht])⟩
   .cases hu
  .rename_i i;split at hu
   .rename_i e;obtain⟨cs,hcs⟩:=Option.isSome_iff_exists.1 hu;unfold fR at hw;split at hw<;>first|(cases hw;done)|skip
    refine(hm.win i cs hcs).cases (C:=λp=>(lf=true->binQ P op t xo yo p _=some _)/\(lf=false->binQ P op t xo yo _ p=some _)) (λb o=>?_) λg o=>?_
    .exact⟨λ_=>fin _ _ (.inl rfl) (by simp only[XV.sv,eZ,ht]),λ_=>fin _ _ (.inr rfl) (by simp only[XV.sv,eZ,ht])⟩
    .exact⟨λ_=>(glob g o e rfl).1,λ_=>(glob g o e rfl).2⟩
   .cases hu
  .split at hu
   .unfold fR at hw;split at hw<;>first|(cases hw;done)|skip
    exact⟨λ_=>fin _ _ (.inl rfl) (by simp only[XV.sv,eZ,ht]),λ_=>fin _ _ (.inr rfl) (by simp only[XV.sv,eZ,ht])⟩
   .cases hu
  .split at hu
   .unfold fR at hw;split at hw<;>first|(cases hw;done)|skip
    exact⟨λ_=>fin _ _ (.inl rfl) (by simp only[XV.sv,eZ,ht]),λe=>by rw[e]at hu;cases hu⟩
   .cases hu
  .split at hu
   .unfold fR at hw;split at hw<;>first|(cases hw;done)|skip
    exact⟨λ_=>fin _ _ (.inl rfl) (by simp only[XV.sv,eZ,ht]),λ_=>fin _ _ (.inr rfl) (by simp only[XV.sv,eZ,ht])⟩
   .cases hu
  .cases hu
 rcases Bool.or_eq_true _ _▸hx with hx|hx
 .rw[a8]at hx;exact(key true _ _ hx.1 hx.2).1 rfl
 .rw[a8]at hx;exact(key false _ _ hx.2 hx.1).2 rfl
theorem wG{op:BinOp}{t:TypeId}{xo yo:Operand}{x y v:XV}{vc:List X}{li:LI}(hm:Mem Γ ρ S h)(h1:HH P S op t xo yo x y=.ok v vc li):binQ P op t xo yo (x.sv ρ) (y.sv ρ)=some (v.sv ρ)/\li=.no:=by
 unfold HH at h1;split at h1
 .rename_i a b ha hb;obtain⟨e,_,rfl⟩:=QR.of_ok h1;obtain⟨s,hs,hv⟩:=aJ.1 e;rw[qX ha,qX hb,hs,Iw hv];exact⟨rfl,rfl⟩
 .split at h1
  .rename_i d ht;cases hb:(notNil S true d x&&fR d y)||(fR d x&&notNil S false d y)with
   |false=>rw[hb]at h1;cases h1
   |true=>
    rw[hb,bf]at h1;split at h1
    .simp only[QR.ok.injEq]at h1;obtain⟨rfl,_,rfl⟩:=h1;exact⟨rM hm ht hb (.inl rfl),rfl⟩
    .simp only[QR.ok.injEq]at h1;obtain⟨rfl,_,rfl⟩:=h1;exact⟨rM hm ht hb (.inr rfl),rfl⟩
    .cases h1
  .cases h1
theorem Au{op:BinOp}{t:TypeId}{xo yo:Operand}{v:XV}{vc:List X}{li:LI}(hf:FM ρ S.f fr)(hm:Mem Γ ρ S h)(h1:Nq P S op t xo yo=.ok v vc li)(hv:∀x∈vc,x.prop ρ):binQ P op t xo yo (fr.ev xo) (fr.ev yo)=some (v.sv ρ)/\li=.no:=by
 unfold Nq at h1;split at h1
 .rename_i k a k' b hx hy;cases hk:decide (k=k')with
  |false=>rw[hk]at h1;cases h1
  |true=>
   rw[hk,bf]at h1;obtain rfl:=of_decide_eq_true hk;rw[hf.opd hx,hf.opd hy];exact xW h1 hv
 .rename_i a b hx hy;rw[hf.opd hx,hf.opd hy];exact uS h1 hv
 .rename_i a b hx hy;rw[hf.opd hx,hf.opd hy];split at h1
  .rename_i ht;simp only[QR.ok.injEq]at h1;obtain⟨rfl,_,rfl⟩:=h1;refine⟨?_,rfl⟩;simp only[XV.sv,zN];exact pt ht (.inl rfl)
  .rename_i ht;simp only[QR.ok.injEq]at h1;obtain⟨rfl,_,rfl⟩:=h1;refine⟨?_,rfl⟩;simp only[XV.sv,mA,zN];exact pt ht (.inr rfl)
  .cases h1
 .rename_i x y _ _ _ hx hy;rw[hf.opd hx,hf.opd hy];exact wG hm h1
 .cases h1
end
def Lw:X->X->X
 | .bl true,b=>b
 |a,.bl true=>a
 |a,b=>.and a b
theorem M0(ρ:Va)(a b:X):((Lw a b).den ρ).b=((a.den ρ).b&&(b.den ρ).b):=by
 unfold Lw;split
 .rfl
 .simp only[X.den,Bool.and_true]
 .rfl
def lz:XV->Option (List XV)
 | .agg l=>some l
 | .lit (.agg cs)=>some (cs.toList.map l7)
 |_=>none
def eqF(P:Program)(rec:TypeId->XV->XV->Option X)(xs ys:List XV):List Field->Option X
 |[]=>some (.bl true)
 |f::fs=>bif f.name== "_" then none else match na P f.type xs f.offset,na P f.type ys f.offset with
  |some a,some b=>match rec f.type a b,eqF P rec xs ys fs with
   |some e,some r=>some (Lw e r)
   |_,_=>none
  |_,_=>none
def eqT(P:Program):Nat->TypeId->XV->XV->Option X
 |0,_,_,_=>none
 |d+1,t,x,y=>match P.underlying t,x,y with
  |some .bool,.bool a,.bool b=>some (Fy a b)
  |some (.int _),.int k a,.int k' b=>bif decide (k=k')then some (xeq a b)else none
  |some .string,.txt a,.txt b=>some (Ic a b)
  |some (.struct fs),x,y=>match lz x,lz y with
   |some xs,some ys=>bif P.stoodInHeld t then none else eqF P (eqT P d) xs ys fs.toList
   |_,_=>none
  |_,_,_=>none
section
variable {P:Program}{ρ:Va}
theorem kj{x:XV}{l:List XV}{a:Value}(hp:lz x=some l)(ha:(x.sv ρ).toLit=some a):∃vs,a=.agg vs.toArray/\SV.toLitL (svL ρ l)=some vs:=by
 unfold lz at hp;split at hp
 .obtain rfl:=ab hp;simp only[XV.sv,SV.toLit]at ha;split at ha
  .rename_i vs hvs;exact⟨vs,(ab ha).symm,hvs⟩
  .cases ha
 .rename_i cs;obtain rfl:=ab hp;simp only[XV.sv,SV.toLit,a7]at ha;subst ha;refine⟨cs.toList,by simp,?_⟩;rw[lN];generalize cs.toList=l
  induction l with
  |nil=>rfl
  |cons v l ih=>simp only[ax,SV.toLitL,SV.toLit,ih]
 .cases hp
theorem rF:∀{l:List SV} {vs:List Value} {i:Nat} {v:SV},SV.toLitL l=some vs->l[i]? =some v->∃a,v.toLit=some a/\vs[i]? =some a
 |[],vs,i,v,_,hi=>by simp at hi
 |x::l,vs,i,v,h,hi=>by
  simp only[SV.toLitL]at h;split at h
  .rename_i a az ha has;obtain rfl:=ab h;cases i with
   |zero=>
    obtain rfl:x=v:=by simpa using hi
    exact⟨a,ha,rfl⟩
   |succ i=>
    obtain⟨c,h1,h2⟩:=rF (i:=i) has (by simpa using hi);exact⟨c,h1,by simpa using h2⟩
  .cases h
theorem o8:∀{l:List SV} {vs:List Value} (n:Nat),SV.toLitL l=some vs->SV.toLitL (l.drop n)=some (vs.drop n)
 |l,vs,0,h=>h
 |[],vs,n+1,h=>by
  simp only[SV.toLitL,a7]at h;rw[<-h];rfl
 |x::l,vs,n+1,h=>by
  simp only[SV.toLitL]at h;split at h
  .rename_i a az ha has;obtain rfl:=ab h;exact o8 n has
  .cases h
theorem pu:∀{l:List SV} {vs:List Value} (n:Nat),SV.toLitL l=some vs->SV.toLitL (l.take n)=some (vs.take n)
 |l,vs,0,h=>by simp[SV.toLitL]
 |[],vs,n+1,h=>by
  simp only[SV.toLitL,a7]at h;rw[<-h];rfl
 |x::l,vs,n+1,h=>by
  simp only[SV.toLitL]at h;split at h
  .rename_i a az ha has;obtain rfl:=ab h;simp only[List.take_succ_cons,SV.toLitL,ha,pu n has]
  .cases h
theorem uu{t:TypeId}{b:Bool}(h:e8 P t=some b):pureRun P (isAgg t)=some b:=by
 unfold e8 at h;cases hu:P.underlying t with
 |none=>rw[hu]at h;cases h
 |some d=>
  rw[hu]at h;show pureRun P (underlying t>>=λd=>_)=_;rw[fb hu];cases d<;>first|(obtain rfl:=ab h;rfl)
theorem zY{t:TypeId}{n:Nat}(h:bI P t=some n):pureRun P (sizeOf t)=some n:=by
 unfold bI at h;rw[aa]at h;obtain⟨i,hi,rfl⟩:=h;have:pureRun P (typeInfo t)=some i:=by
  show pureRun P (match P.info? t with
   |some i=>(pure i:Sem TypeInfo)
   |none=>stuck "no such type")=_
  rw[hi];rfl
 show pureRun P (typeInfo t>>=λi=>pure i.size)=_;rw[run_bind,this];rfl
theorem ze{t:TypeId}{l:List XV}{off:Nat}{v:XV}{vs:List Value}(h:na P t l off=some v)(hl:SV.toLitL (svL ρ l)=some vs):∃a,(v.sv ρ).toLit=some a/\pureRun P (part t vs.toArray off)=some a:=by
 unfold na at h;split at h
 .rename_i ht;split at h
  .rename_i n hn;rw[aa]at h;obtain⟨ws,hws,rfl⟩:=h;obtain⟨e1,e2⟩:=dg.1 (lE (ρ:=ρ) hws);have h3:=pu n (o8 off hl);rw[e1]at h3;refine⟨.agg ((vs.drop off).take n).toArray,by simp only[XV.sv,SV.toLit,h3],?_⟩;show pureRun P (isAgg t>>=λb=>_)=_;rw[run_bind,uu ht];show pureRun P (sizeOf t>>=λn=>_)=_;rw[run_bind,zY hn];show some (Value.agg (vs.toArray.extract off (off+n)))=_;congr 2;simp
  .cases h
 .rename_i ht;obtain⟨a,h1,h2⟩:=rF hl (by rw[lD,h];rfl:(svL ρ l)[off]? =some (v.sv ρ));refine⟨a,h1,?_⟩;show pureRun P (isAgg t>>=λb=>_)=_;rw[run_bind,uu ht];show pureRun P (match vs.toArray[off]? with
   |some v=>pure v
   |none=>stuck "part: no such cell")=_
  rw[aP,h2];rfl
 .cases h
theorem Bt{d:Nat}{rec:TypeId->XV->XV->Option X}(hrec:∀t x y e a b,rec t x y=some e->(x.sv ρ).toLit=some a->(y.sv ρ).toLit=some b->pureRun P (Op.equalIn d t a b)=some (e.den ρ).b){xs ys:List XV}{az bs:List Value}(hx:SV.toLitL (svL ρ xs)=some az)(hy:SV.toLitL (svL ρ ys)=some bs):∀{fs:List Field} {e:X},eqF P rec xs ys fs=some e->
 pureRun P (forIn fs ((none,()):Option Bool×Unit) λf _=>if f.name≠ "_" then do
  let a<-part f.type az.toArray f.offset
  let b<-part f.type bs.toArray f.offset
  let r<-Op.equalIn d f.type a b
  if(!r)=true then pure (ForInStep.done (some false,()))else pure (ForInStep.yield (none,()))
  else pure (ForInStep.yield (none,())))=some (if(e.den ρ).b=true then(none,())else(some false,()))
 |[],e,h=>by
  obtain rfl:=ab h;rfl
 |f::fs,e,h=>by
  unfold eqF at h;cases hn:f.name== "_" with
  |true=>rw[hn]at h;cases h
  |false=>
   rw[hn,bg]at h;have hn:f.name≠ "_" :=by simpa using hn
   split at h
   .rename_i a b ha hb;split at h
    .rename_i e1 e2 h1 h2;obtain rfl:=ab h;obtain⟨va,a1,a2⟩:=ze (ρ:=ρ) ha hx;obtain⟨vb,b1,b2⟩:=ze (ρ:=ρ) hb hy;have hq:=hrec _ _ _ _ _ _ h1 a1 b1;have ih:=Bt hrec hx hy h2;rw[List.forIn_cons,run_bind,bi hn,run_bind,a2];simp only[ay];rw[run_bind,b2];simp only[ay];rw[run_bind,hq];simp only[ay,M0];cases hv:(e1.den ρ).b with
     |true=>
      simp only[Bool.not_true,aA,if_false,aI];exact ih
     |false=>
      simp only[Bool.not_false,if_true,Bool.false_and,aA,if_false];rfl
    .cases h
   .cases h
theorem Ce:∀(d:Nat) (t:TypeId) (x y:XV) (e:X) (a b:Value),eqT P d t x y=some e->(x.sv ρ).toLit=some a->(y.sv ρ).toLit=some b->pureRun P (Op.equalIn d t a b)=some (e.den ρ).b
 |0,_,_,_,_,_,_,h,_,_=>by cases h
 |d+1,t,x,y,e,a,b,h,hx,hy=>by
  unfold eqT at h;split at h
  .rename_i p q ht;obtain rfl:=ab h;simp only[XV.sv,SV.toLit,a7]at hx hy;subst hx;subst hy;rw[Op.equalIn,fb ht,zN];rfl
  .rename_i k0 k p k' q ht;cases hk:decide (k=k')with
   |false=>rw[hk]at h;cases h
   |true=>
    rw[hk,bf]at h;obtain rfl:=of_decide_eq_true hk;obtain rfl:=ab h;simp only[XV.sv,SV.toLit,a7]at hx hy;subst hx;subst hy;rw[Op.equalIn,fb ht,GM];simp only[if_true];show some (_==_)=_;rw[zU]
  .rename_i p q ht;obtain rfl:=ab h;simp only[XV.sv,SV.toLit,a7]at hx hy;subst hx;subst hy;rw[Op.equalIn,fb ht,Ad];show some ((⟨⟨(p.den ρ).t⟩⟩:ByteArray)==⟨⟨(q.den ρ).t⟩⟩)=_;have e:((⟨⟨(p.den ρ).t⟩⟩:ByteArray)==⟨⟨(q.den ρ).t⟩⟩)=decide ((p.den ρ).t=(q.den ρ).t):=by
    show((⟨(p.den ρ).t⟩:Array UInt8)==⟨(q.den ρ).t⟩)=_;rw[Bool.eq_iff_iff,beq_iff_eq,decide_eq_true_iff];simp
   rw[e]
  .rename_i fs ht;split at h
   .rename_i xs ys hpx hpy;cases hh:P.stoodInHeld t with
    |true=>rw[hh]at h;cases h
    |false=>
     rw[hh,bg]at h;obtain⟨az,rfl,has⟩:=kj hpx hx;obtain⟨bs,rfl,hbs⟩:=kj hpy hy;have:=Bt (P:=P) (d:=d) (λt x y e a b=>Ce d t x y e a b) has hbs h;rw[Op.equalIn,fb ht];simp only;rw[run_bind];have hp:pureRun P program=some P:=rfl;rw[hp];simp only[ay,hh,aA,if_false];rw[run_bind,<-Array.forIn_toList,this];cases(e.den ρ).b<;>rfl
   .cases h
  .cases h
theorem CU{op:BinOp}{t:TypeId}{xo yo:Operand}{x y:XV}{e:X}{az bs:Array Value}(he:eqT P Op.maxDepth t x y=some e)(hx:(x.sv ρ).toLit=some (.agg az))(hy:(y.sv ρ).toLit=some (.agg bs))(hg:P.eqGuardType P.depth t=false)(ho:op=.eql\/op=.neq):
 binQ P op t xo yo (x.sv ρ) (y.sv ρ)=some (.lit (.bool (if op=.eql then(e.den ρ).b else !(e.den ρ).b))):=by
 have h1:pureRun P (Op.equal t (.agg az) (.agg bs))=some (e.den ρ).b:=Ce _ _ _ _ _ _ _ he hx hy;have h2:∀o,(o=.eql\/o=.neq)->pureRun P (eqGuard o t xo yo (.agg az) (.agg bs))=some ():=λo ho=>by
  rcases ho with rfl|rfl
  .show pureRun P (program>>=λp=>program>>=λq=>if(!p.eqGuardType q.depth t)=true then _ else _)=_;rw[run_bind];show pureRun P (program>>=λq=>if(!P.eqGuardType q.depth t)=true then _ else _)=_;rw[run_bind];show pureRun P (if(!P.eqGuardType P.depth t)=true then _ else _)=_;rw[hg];rfl
  .show pureRun P (program>>=λp=>program>>=λq=>if(!p.eqGuardType q.depth t)=true then _ else _)=_;rw[run_bind];show pureRun P (program>>=λq=>if(!P.eqGuardType q.depth t)=true then _ else _)=_;rw[run_bind];show pureRun P (if(!P.eqGuardType P.depth t)=true then _ else _)=_;rw[hg];rfl
 have h3:pureRun P (eqGuard op t xo yo (.agg az) (.agg bs)>>=λ_=>binOp op t (.agg az) (.agg bs))=some (.bool (if op=.eql then(e.den ρ).b else !(e.den ρ).b)):=by
  rw[run_bind,h2 op ho];rcases ho with rfl|rfl
  .show pureRun P (Op.equal t (.agg az) (.agg bs)>>=λr=>pure (Value.bool r))=_;rw[run_bind,h1];rfl
  .show pureRun P (Op.equal t (.agg az) (.agg bs)>>=λr=>pure (Value.bool !r))=_;rw[run_bind,h1];rfl
 have h3:pureRun P (do eqGuard op t xo yo (.agg az) (.agg bs);binOp op t (.agg az) (.agg bs))=_:=h3;simp only[binQ,hx,hy,h3,af]
end
mutual
def tP:XV->Bool
 | .int _ _| .bool _| .txt _| .lit _=>true
 | .agg l=>vy l
 |_=>false
def vy:List XV->Bool
 |[]=>true
 |v::l=>tP v&&vy l
end
mutual
theorem oQ(ρ:Va):∀v:XV,tP v=true->∃a,(v.sv ρ).toLit=some a
 | .int _ _,_=>⟨_,rfl⟩
 | .bool _,_=>⟨_,rfl⟩
 | .txt _,_=>⟨_,rfl⟩
 | .lit _,_=>⟨_,rfl⟩
 | .agg l,h=>by
   obtain⟨vs,hvs⟩:=qT ρ l h;exact⟨.agg vs.toArray,by simp only[XV.sv,SV.toLit,hvs]⟩
 | .ptr _ _,h=>by cases h
 | .raw _,h=>by cases h
 | .pad _ _,h=>by cases h
 | .map _,h=>by cases h
 | .slice _ _ _ _,h=>by cases h
 | .tup _,h=>by cases h
 | .fn _ _ _,h=>by cases h
 | .yield _,h=>by cases h
 | .iface _ _,h=>by cases h
theorem qT(ρ:Va):∀l:List XV,vy l=true->∃vs,SV.toLitL (svL ρ l)=some vs
 |[],_=>⟨[],rfl⟩
 |v::l,h=>by
  simp only[vy,a8]at h;obtain⟨a,ha⟩:=oQ ρ v h.1;obtain⟨vs,hvs⟩:=qT ρ l h.2;exact⟨a::vs,by simp only[svL,SV.toLitL,ha,hvs]⟩
end
def uO(P:Program)(S:Sy)(op:BinOp)(t:TypeId)(x y:Operand):QR:=match opd S.f x,opd S.f y with
 |some a,some b=>bif(lz a).isSome&&((lz b).isSome&&(tP a&&(tP b&& !P.eqGuardType P.depth t)))then(match op,eqT P Op.maxDepth t a b with
  | .eql,some e=>.ok (.bool e) [] .no
  | .neq,some e=>.ok (.bool (vM e)) [] .no
  |_,_=>.no)else .no
 |_,_=>.no
theorem sJ{P:Program}{ρ:Va}{S:Sy}{fr:Fr}{op:BinOp}{t:TypeId}{x y xo yo:Operand}{v:XV}{vc:List X}{li:LI}(hf:FM ρ S.f fr)(h1:uO P S op t x y=.ok v vc li):binQ P op t xo yo (fr.ev x) (fr.ev y)=some (v.sv ρ)/\li=.no:=by
 unfold uO at h1;split at h1
 .rename_i a b ha hb;cases hc:(lz a).isSome&&((lz b).isSome&&(tP a&&(tP b&& !P.eqGuardType P.depth t)))with
  |false=>rw[hc]at h1;cases h1
  |true=>
   rw[hc,bf]at h1;simp only[a8,Bool.not_eq_true']at hc;obtain⟨c1,c2,c3,c4,c5⟩:=hc;obtain⟨la,hla⟩:=Option.isSome_iff_exists.1 c1;obtain⟨lb,hlb⟩:=Option.isSome_iff_exists.1 c2;obtain⟨va,hva⟩:=oQ ρ a c3;obtain⟨vb,hvb⟩:=oQ ρ b c4;obtain⟨az,rfl,_⟩:=kj hla hva;obtain⟨bs,rfl,_⟩:=kj hlb hvb;rw[hf.opd ha,hf.opd hb];split at h1
   .rename_i e he;simp only[QR.ok.injEq]at h1;obtain⟨rfl,_,rfl⟩:=h1;exact⟨CU he hva hvb c5 (.inl rfl),rfl⟩
   .rename_i e he;simp only[QR.ok.injEq]at h1;obtain⟨rfl,_,rfl⟩:=h1;refine⟨?_,rfl⟩;simp only[XV.sv,mA];exact CU he hva hvb c5 (.inr rfl)
   .cases h1
 .cases h1
def pI(S:Sy):XV->Bool
 | .ptr _ _=>true
 | .raw i=>(getWin i S.win).isSome
 | .pad i _=>(getWin i S.win).isSome
 | .fn _ _ _=>true
 | .yield _=>true
 | .lit v=>fZ (.lit v)
 |_=>false
def AJ(P:Program)(S:Sy)(t:TypeId)(x i:Operand):QR:=
 match tyU P t,opd S.f x,opd S.f i with
 |some .string,some (.txt e),some (.int _ j)=>.ok (.int .u8 (.at e j)) [.le (.z 0) j,.lt j (A3 e)] .no
 |some (.array len e),some (.agg l),some v=>match bI P e,vJ v with
  |some s,some k=>bif Nat.blt k len then .of (na P e l (k*s))else .no
  |_,_=>.no
 |_,_,_=>.no
def qUn(S:Sy)(op:UnOp)(x:Operand):QR:=match op,opd S.f x with
 | .not,some (.bool e)=>.ok (.bool (vM e)) [] .no
 | .neg,some (.int k e)=>uY k (J2 (.z 0) e)
 |_,_=>.no
def HD(P:Program)(S:Sy)(s d:TypeId)(x:Operand):QR:=match tyU P s,tyU P d,opd S.f x with
 |some _,some (.int k),some (.int _ e)=>uY k e
 |some .string,some .string,some (.txt e)=>.ok (.txt e) [] .no
 |_,_,_=>.no
def A5(P:Program)(S:Sy)(t:TypeId)(x:Operand)(lo hi:Option Operand):QR:=match tyU P t,opd S.f x with
 |some .string,some (.txt e)=>match lo,hi with
  |some a,none=>match opd S.f a with
   |some (.int .i64 i)=>.ok (.txt (.tfr e i)) [.le (.z 0) i,.le i (A3 e)] .no
   |_=>.no
  |none,some b=>match opd S.f b with
   |some (.int .i64 j)=>.ok (.txt (.tto e j)) [.le (.z 0) j,.le j (A3 e)] .no
   |_=>.no
  |some a,some b=>match opd S.f a,opd S.f b with
   |some (.int .i64 i),some (.int .i64 j)=>.ok (.txt (.tmid e i j)) [.le (.z 0) i,.le i j,.le j (A3 e)] .no
   |_,_=>.no
  |none,none=>.no
 |_,_=>.no
def NV(P:Program)(S:Sy)(args:Array Operand)(tys:Array TypeId):QR:=match args[0]?,tys[0]? with
 |some x,some t=>match tyU P t,opd S.f x with
  |some .string,some (.txt e)=>.ok (.int .i64 (A3 e)) [] .no
  |some (.slice _),some (.slice _ _ n _)=>.ok (.int .i64 (.z n)) [] .no
  |some (.slice _),some (.lit (.slice none 0 c))=>.ok (.int .i64 (.z 0)) [] .no
  |some (.map _ _),some (.lit (.map none))=>.ok (.int .i64 (.z 0)) [] .no
  |_,_=>.no
 |_,_=>.no
def qd(P:Program)(S:Sy)(op:Op):QR:=
 match op with
 | .move x| .assign x=>.of (opd S.f x)
 | .pick c a b=>match opd S.f c with
   |some (.bool e)=>match e.dec S.asm with
    |some tr=>.of (opd S.f (bif tr then a else b))
    |none=>.fork e
   |_=>.no
 | .load t a=>BP P S t a
 | .nilCheck x=>match opd S.f x with
   |some v=>bif pI S v then .ok v [] .no else .no
   |none=>.no
 | .fieldAddr s x i=>.of (me P S s x i)
 | .indexAddr t x i=>.of (mE P S t x i)
 | .field t x i=>.of (Bg P S t x i)
 | .index t x i=>AJ P S t x i
 | .extract x i=>.of (qx S x i)
 | .build t parts=>.of (zD P S t parts.toList)
 | .makeFunc (.func g) first captured=>match iG S.f first.toList,iG S.f captured.toList with
   |some a,some c=>.ok (.fn g a c) [] .no
   |_,_=>.no
 | .makeInterface t x=>match tyU P t,opd S.f x with
   |some (.interface _),_=>.no
   |some _,some v=>.ok (.iface t v) [] .no
   |_,_=>.no
 | .binOp op t x y _=>match uO P S op t x y with
   | .no=>Nq P S op t x y
   |r=>r
 | .unOp op _ x=>qUn S op x
 | .convert s d x=>HD P S s d x
 | .slice t x lo hi none=>A5 P S t x lo hi
 | .call ⟨.builtin .len,args,tys⟩=>NV P S args tys
 |_=>.no
section
variable {P:Program}{Γ:Glob}{ρ:Va}{S:Sy}{h:Hp}{fr:Fr}
theorem gp{o:Option XV}{v:XV}{vc:List X}{li:LI}{r:Option (SV×List Fact)}(h1:QR.of o=.ok v vc li)(hr:o=some v->r=some (v.sv ρ,[])):r=some (v.sv ρ,li.facts ρ):=by
 obtain⟨e,_,rfl⟩:=QR.of_ok h1;exact hr e
theorem su{v:XV}(hm:Mem Γ ρ S h)(h1:pI S v=true):fZ (v.sv ρ)=true:=by
 unfold pI at h1;split at h1
 .rfl
 .rename_i i;obtain⟨cs,hcs⟩:=Option.isSome_iff_exists.1 h1;exact(hm.win i cs hcs).cases (C:=λp=>fZ p=true) (λ_ _=>rfl) λ_ _=>rfl
 .rename_i i k;obtain⟨cs,hcs⟩:=Option.isSome_iff_exists.1 h1;exact(hm.win i cs hcs).cases (C:=λp=>fZ (gA p k)=true) (λ_ _=>rfl) λ_ _=>rfl
 .rfl
 .rfl
 .exact h1
 .cases h1
theorem vo{t:TypeId}{x i:Operand}{v:XV}{vc:List X}{li:LI}(hf:FM ρ S.f fr)(h1:AJ P S t x i=.ok v vc li)(hv:∀x∈vc,x.prop ρ):quiet P Γ h fr.ev (.index t x i)=some (v.sv ρ,li.facts ρ):=by
 unfold AJ at h1;split at h1
 .rename_i e k j ht hx hi;simp only[QR.ok.injEq]at h1;obtain⟨rfl,rfl,rfl⟩:=h1;have a1:=hv _ (ak ..);have a2:=hv _ (am _ (aQ _));simp only[X.prop,X.den,rn]at a1 a2;simp only[quiet,hf.opd hx,hf.opd hi,XV.sv,Mc ht k a1 a2,one,af,X.den,LI.facts]
 .rename_i len e l w ht hx hi;split at h1
  .rename_i s k hs hk;cases hb:Nat.blt k len with
   |false=>rw[hb]at h1;cases h1
   |true=>
    rw[hb,bf]at h1;refine gp h1 λhp=>?_;simp only[quiet,kD,ht,hf.opd hx,hf.opd hi,XV.sv,hs,oN hk len hb,qu hp,one,af]
  .cases h1
 .cases h1
theorem EG{op:UnOp}{t:TypeId}{x:Operand}{v:XV}{vc:List X}{li:LI}(hf:FM ρ S.f fr)(h1:qUn S op x=.ok v vc li)(hv:∀x∈vc,x.prop ρ):quiet P Γ h fr.ev (.unOp op t x)=some (v.sv ρ,li.facts ρ):=by
 unfold qUn at h1;split at h1
 .rename_i e hx;simp only[QR.ok.injEq]at h1;obtain⟨rfl,_,rfl⟩:=h1;simp only[quiet,hf.opd hx,XV.sv,SV.toLit,mA];rfl
 .rename_i k e hx;obtain⟨e1,rfl⟩:=vF h1 hv;rw[Fs]at e1;simp only[quiet,hf.opd hx,XV.sv,SV.toLit];rw[e1];rfl
 .cases h1
theorem xb{s d:TypeId}{x:Value}{a b:TypeDesc}{r:Option Value}(hs:tyU P s=some a)(hd:tyU P d=some b)(h1:pureRun P (match a,b,x with
 |_,.int k,.int _ n=>Conv.intToInt k n
 | .string,.string,.string _=>pure x
 |_,_,_=>stuck "")=r) (hk:(∃k k' n,b=.int k/\x=.int k' n)\/(a=.string/\b=.string/\∃s,x=.string s)):pureRun P (convert s d x)=r:=by
 show pureRun P (underlying s>>=λa=>underlying d>>=λb=>_)=_;rw[fb hs,fb hd];rcases hk with⟨k,k',n,rfl,rfl⟩|⟨rfl,rfl,s,rfl⟩
 .exact h1
 .exact h1
theorem wJ{s d:TypeId}{x:Operand}{v:XV}{vc:List X}{li:LI}(hf:FM ρ S.f fr)(h1:HD P S s d x=.ok v vc li)(hv:∀x∈vc,x.prop ρ):quiet P Γ h fr.ev (.convert s d x)=some (v.sv ρ,li.facts ρ):=by
 unfold HD at h1;split at h1
 .rename_i a k k' e hs hd hx;obtain⟨e1,rfl⟩:=vF h1 hv;have hr:pureRun P (convert s d (.int k' (e.den ρ).i))=some (.int k (k.wrap (e.den ρ).i)):=xb hs hd rfl (.inl ⟨k,k',_,rfl,rfl⟩);simp only[quiet,eb,hs,hd,hf.opd hx,XV.sv,SV.toLit,hr,e1];rfl
 .rename_i e hs hd hx;simp only[QR.ok.injEq]at h1;obtain⟨rfl,_,rfl⟩:=h1;have hr:pureRun P (convert s d (.string ⟨⟨(e.den ρ).t⟩⟩))=some (.string ⟨⟨(e.den ρ).t⟩⟩):=xb hs hd rfl (.inr ⟨rfl,rfl,_,rfl⟩);simp only[quiet,eb,hs,hd,hf.opd hx,XV.sv,SV.toLit,hr];rfl
 .cases h1
theorem vY{t:TypeId}{x:Operand}{lo hi:Option Operand}{v:XV}{vc:List X}{li:LI}(hf:FM ρ S.f fr)(h1:A5 P S t x lo hi=.ok v vc li)(hv:∀x∈vc,x.prop ρ):quiet P Γ h fr.ev (.slice t x lo hi none)=some (v.sv ρ,li.facts ρ):=by
 unfold A5 at h1;split at h1
 .rename_i e ht hx;split at h1
  .split at h1
   .rename_i i ha;simp only[QR.ok.injEq]at h1;obtain⟨rfl,rfl,rfl⟩:=h1;have a1:=hv _ (ak ..);have a2:=hv _ (am _ (aQ _));simp only[X.prop,X.den,rn]at a1 a2;simp only[quiet,af,Option.map_none,hf.opd hx,hf.opd ha,XV.sv,Hn ht a1 a2,one,X.den,LI.facts]
   .cases h1
  .split at h1
   .rename_i j hb;simp only[QR.ok.injEq]at h1;obtain⟨rfl,rfl,rfl⟩:=h1;have a1:=hv _ (ak ..);have a2:=hv _ (am _ (aQ _));simp only[X.prop,X.den,rn]at a1 a2;simp only[quiet,af,Option.map_none,hf.opd hx,hf.opd hb,XV.sv,MG ht a1 a2,one,X.den,LI.facts]
   .cases h1
  .split at h1
   .rename_i i j ha hb;simp only[QR.ok.injEq]at h1;obtain⟨rfl,rfl,rfl⟩:=h1;have a1:=hv _ (ak ..);have a2:=hv _ (am _ (ak ..));have a3:=hv _ (am _ (am _ (aQ _)));simp only[X.prop,X.den,rn]at a1 a2 a3;simp only[quiet,af,Option.map_none,hf.opd hx,hf.opd ha,hf.opd hb,XV.sv,It ht a1 a2 a3,one,X.den,LI.facts]
   .cases h1
  .cases h1
 .cases h1
theorem zZ{args:Array Operand}{tys:Array TypeId}{v:XV}{vc:List X}{li:LI}(hf:FM ρ S.f fr)(h1:NV P S args tys=.ok v vc li):quiet P Γ h fr.ev (.call ⟨.builtin .len,args,tys⟩)=some (v.sv ρ,li.facts ρ):=by
 unfold NV at h1;split at h1
 .rename_i x t ha htt;split at h1
  .rename_i e ht hx;simp only[QR.ok.injEq]at h1;obtain⟨rfl,_,rfl⟩:=h1;simp only[quiet,ha,htt,hf.opd hx,XV.sv,JE ht,rn];rfl
  .rename_i b off n c ht hx;simp only[QR.ok.injEq]at h1;obtain⟨rfl,_,rfl⟩:=h1;simp only[quiet,ha,htt,hf.opd hx,XV.sv,gy,ht];rfl
  .rename_i c ht hx;simp only[QR.ok.injEq]at h1;obtain⟨rfl,_,rfl⟩:=h1;have e:pureRun P (Builtin.len_ #[t] 0 #[.slice none 0 c])=some (.int .i64 0):=by
    show pureRun P (underlying t>>=λd=>_)=_;rw[fb ht];rfl
   simp only[quiet,ha,htt,hf.opd hx,XV.sv,gy,ht,SV.toLit,e];rfl
  .rename_i ht hx;simp only[QR.ok.injEq]at h1;obtain⟨rfl,_,rfl⟩:=h1;have e:pureRun P (Builtin.len_ #[t] 0 #[.map none])=some (.int .i64 0):=by
    show pureRun P (underlying t>>=λd=>_)=_;rw[fb ht];rfl
   simp only[quiet,ha,htt,hf.opd hx,XV.sv,gy,ht,SV.toLit,e];rfl
  .cases h1
 .cases h1
theorem xk{op:Op}{v:XV}{vc:List X}{li:LI}(hf:FM ρ S.f fr)(hm:Mem Γ ρ S h)(ha:AsmOk ρ S.asm)(h1:qd P S op=.ok v vc li)(hv:∀x∈vc,x.prop ρ):quiet P Γ h fr.ev op=some (v.sv ρ,li.facts ρ):=by
 unfold qd at h1;split at h1
 .exact gp h1 λe=>by simp only[quiet,hf.opd e]
 .exact gp h1 λe=>by simp only[quiet,hf.opd e]
 .split at h1
  .rename_i e hc;split at h1
   .rename_i tr hd;refine gp h1 λhx=>?_;have hb:=X.dec_ok ha e hd;simp only[quiet,hf.opd hc,XV.sv,hb];cases tr with
    |true=>exact congrArg (λv=>some (v,[])) (hf.opd hx)
    |false=>exact congrArg (λv=>some (v,[])) (hf.opd hx)
   .cases h1
  .cases h1
 .simp only[quiet];exact po hf hm h1
 .split at h1
  .rename_i w hx;cases hb:pI S w with
   |false=>rw[hb]at h1;cases h1
   |true=>
    rw[hb,bf]at h1;simp only[QR.ok.injEq]at h1;obtain⟨rfl,_,rfl⟩:=h1;simp only[quiet,hf.opd hx,su hm hb,bf];rfl
  .cases h1
 .exact gp h1 λe=>by simp only[quiet,nZ hf hm e,one,af]
 .exact gp h1 λe=>by simp only[quiet,oy hf hm e,one,af]
 .exact gp h1 λe=>vf hf e
 .exact vo hf h1 hv
 .exact gp h1 λe=>rh hf e
 .exact gp h1 λe=>wn hf e
 .split at h1
  .rename_i a c hfi hca;simp only[QR.ok.injEq]at h1;obtain⟨rfl,_,rfl⟩:=h1;simp only[quiet,pG hf hfi,pG hf hca];rfl
  .cases h1
 .split at h1
  .cases h1
  .rename_i d w hni ht hx;simp only[QR.ok.injEq]at h1;obtain⟨rfl,_,rfl⟩:=h1;simp only[quiet,ht,hf.opd hx];rfl
  .cases h1
 .rename_i op t x y _;have hb:binQ P op t x y (fr.ev x) (fr.ev y)=some (v.sv ρ)/\li=.no:=by
   split at h1
   .exact Au hf hm h1 hv
   .exact sJ hf h1
  obtain⟨e,rfl⟩:=hb;simp only[quiet,e,one,af];rfl
 .exact EG hf h1 hv
 .exact wJ hf h1 hv
 .exact vY hf h1 hv
 .exact zZ hf h1
 .cases h1
end
def child:Code->Nat->Option Code
 | .seq a b,d=>some (bif Nat.beq d 0 then a else b)
 | .cond _ a b,d=>some (bif Nat.beq d 0 then a else b)
 | .block _ c,_=>some c
 | .loop c,_=>some c
 | .scope c,_=>some c
 |_,_=>none
abbrev Stk:=List (Nat×Code)
def kat(c0:Code):List Nat->Option (Stk×Code)
 |[]=>some ([],c0)
 |d::p=>match kat c0 p with
  |some (K,c)=>(child c d).map λc'=>((d,c)::K,c')
  |none=>none
def aft(P:Program)(Γ:Glob)(ro:Option Nat)(Φ:Out->Prop):Stk->Out->Prop
 |[]=>Φ
 |(d,.seq _ b)::K=>bif Nat.beq d 0 then E9 (λf h=>Runs P Γ (.code b ro f h) (aft P Γ ro Φ K)) (aft P Γ ro Φ K)else aft P Γ ro Φ K
 |(_,.block id _)::K=>λo=>aft P Γ ro Φ K (lh id o)
 |(_,.loop c)::K=>E9 (λf h=>Runs P Γ (.code (.loop c) ro f h) (aft P Γ ro Φ K)) (aft P Γ ro Φ K)
 |_::K=>aft P Γ ro Φ K
inductive RK where
 |bin (op:BinOp) (t:TypeId) (x y:XV)
 |un (op:UnOp) (x:XV)
 |len (t:TypeId) (x:XV)
 |idx (t:TypeId) (x i:XV)
 |idxA (t:TypeId) (x i:XV)
 |slc (t:TypeId) (x:XV) (lo hi:Option XV)
 |conv (s d:TypeId) (x:XV)
 |look (t:TypeId) (m k:XV) (ok:Bool)
 |load (t:TypeId) (p:XV)
 |fld (s:TypeId) (x:XV) (i:Nat)
 |nil (x:XV)
 |asrt (t:TypeId) (ok:Bool) (x:XV)
 |mx (t:Array TypeId) (l:List XV)
 |mn (t:Array TypeId) (l:List XV)
def qF(ρ:Va):Option XV->Option SV
 |some v=>some (v.sv ρ)
 |none=>none
def opC:Operand->Bool
 | .const _=>true
 |_=>false
def nB(y:SV)(Φ:Operand->Operand->Prop):Prop:=match y with
 | .lit .nilIface=>∀xo v,Φ xo (.const v)
 |_=>∀xo yo,Φ xo yo
theorem De{y:SV}{Φ:Operand->Operand->Prop}(h:nB y Φ):Φ (.const undef) (.const undef):=by
 unfold nB at h;split at h<;>exact h _ _
theorem Dt{y:SV}{Φ:Operand->Operand->Prop}(h:nB y Φ){yo:Operand}(hc:y=.lit .nilIface->opC yo=true)(xo:Operand):Φ xo yo:=by
 unfold nB at h;split at h
 .have:=hc rfl;cases yo<;>first|exact h _ _|cases this
 .exact h _ _
def XV.nilable:XV->Bool
 | .lit .nilIface=>true
 | .raw _=>true
 | .pad _ _=>true
 |_=>false
theorem Bf{ρ:Va}{y:XV}(h:y.nilable=false):y.sv ρ≠.lit .nilIface:=by
 intro e;cases y<;>simp only[XV.sv,SV.lit.injEq,reduceCtorEq]at e
 .subst e;cases h
 .cases h
 .cases h
def RK.says(P:Program)(Γ:Glob)(ρ:Va)(h:Hp)(r:SV×List Fact):RK->Prop
 | .bin op t x y=>nB (y.sv ρ) λxo yo=>one (binQ P op t xo yo (x.sv ρ) (y.sv ρ))=some r
 | .un op x=>(match(x.sv ρ).toLit with
   |some a=>one ((pureRun P (Op.unary op a)).map .lit)
   |none=>none)=some r
 | .len t x=>gy P h t (x.sv ρ)=some r
 | .idx t x i=>one (kD P t (x.sv ρ) (i.sv ρ))=some r
 | .idxA t x i=>one (bT P t (x.sv ρ) (i.sv ρ))=some r
 | .slc t x lo hi=>one (d9 P t (x.sv ρ) (qF ρ lo) (qF ρ hi) none)=some r
 | .conv s d x=>eb P Γ h s d (x.sv ρ)=some r
 | .look t m k ok=>dC P h t (m.sv ρ) (k.sv ρ) ok=some r
 | .load t p=>dk P Γ h t (p.sv ρ)=some r
 | .fld s x i=>one (dv P s (x.sv ρ) i)=some r
 | .nil x=>(bif fZ (x.sv ρ)then some (x.sv ρ,[])else none)=some r
 | .asrt t ok x=>one (lO P t ok (x.sv ρ))=some r
 | .mx t l=>(match SV.toLitL (svL ρ l)with
   |some vs=>one ((pureRun P (Builtin.max_ t 0 vs.toArray)).map .lit)
   |none=>none)=some r
 | .mn t l=>(match SV.toLitL (svL ρ l)with
   |some vs=>one ((pureRun P (Builtin.min_ t 0 vs.toArray)).map .lit)
   |none=>none)=some r
def RK.noFacts(P:Program):RK->Bool
 | .len t _=>(match tyU P t with
   |some (.map _ _)=>false
   |_=>true)
 | .bin .. | .un .. | .idx .. | .idxA .. | .slc .. | .fld .. | .nil _| .asrt .. | .mx .. | .mn .. =>true
 | .look _ (.lit (.map none)) _ _=>true
 |_=>false
theorem is{x:Option SV}{r:SV×List Fact}(h:one x=some r):r.2=[]:=by
 cases x with
 |none=>cases h
 |some v=>obtain rfl:=ab h;rfl
theorem uM{P:Program}{Γ:Glob}{ρ:Va}{h:Hp}{r:SV×List Fact}:∀{key:RK},key.noFacts P=true->key.says P Γ ρ h r->r.2=[]
 | .len t x,hk,hs=>by
   have hm:∀a b,tyU P t≠some (.map a b):=λa b e=>by
    replace hk:(match tyU P t with
     |some (.map _ _)=>false
     |_=>true)=true:=hk
    rw[e]at hk;cases hk
   simp only[RK.says,gy]at hs
   repeat' split at hs
   all_goals first
    |(cases hs;done)
    |(obtain rfl:=ab hs;rfl)
    |(rename_i e1 _ _ _ _;exact absurd e1 (hm _ _))
    |(exact absurd (by assumption) (hm _ _))
 | .bin op t x y,_,hs=>is (De (y:=y.sv ρ) (Φ:=λxo yo=>one (binQ P op t xo yo (x.sv ρ) (y.sv ρ))=some r) hs)
 | .un op x,_,hs=>by
   simp only[RK.says]at hs;split at hs
   .exact is hs
   .cases hs
 | .idx ..,_,hs=>is hs
 | .idxA ..,_,hs=>is hs
 | .slc ..,_,hs=>is hs
 | .fld ..,_,hs=>is hs
 | .nil x,_,hs=>by
   simp only[RK.says]at hs;cases hn:fZ (x.sv ρ)with
   |true=>rw[hn]at hs;obtain rfl:=ab hs;rfl
   |false=>rw[hn]at hs;cases hs
 | .asrt ..,_,hs=>is hs
 | .mx t l,_,hs=>by
   simp only[RK.says]at hs;split at hs
   .exact is hs
   .cases hs
 | .mn t l,_,hs=>by
   simp only[RK.says]at hs;split at hs
   .exact is hs
   .cases hs
 | .look t m k ok,hk,hs=>by
   have hm:m=.lit (.map none):=by
    unfold RK.noFacts at hk;split at hk<;>first|rfl|(simp_all;done)
   subst hm;simp only[RK.says,XV.sv,dC]at hs;have he:d8 h (.lit (.map none))=some ([],[]):=rfl;rw[he]at hs;split at hs
   .rename_i e1 e2 e3;obtain⟨rfl,rfl⟩:=Prod.mk.inj (ab e2);split at hs
    .obtain rfl:=ab hs;rfl
    .split at hs
     .obtain rfl:=ab hs;rfl
     .cases hs
    .cases hs
   .cases hs
def vD(f:T XV):Option Operand->Option (Option XV)
 |none=>some none
 |some x=>(opd f x).map some
def I0(f:T XV):Op->Option RK
 | .binOp op t x y _=>match opd f x,opd f y with
   |some a,some b=>bif b.nilable&& !opC y then none else some (.bin op t a b)
   |_,_=>none
 | .unOp op _ x=>(opd f x).map (.un op)
 | .call ⟨.builtin .len,args,tys⟩=>match args[0]?,tys[0]? with
   |some x,some t=>(opd f x).map (.len t)
   |_,_=>none
 | .call ⟨.builtin .max,args,tys⟩=>(iG f args.toList).map (.mx tys)
 | .call ⟨.builtin .min,args,tys⟩=>(iG f args.toList).map (.mn tys)
 | .index t x i=>match opd f x,opd f i with
   |some a,some b=>some (.idx t a b)
   |_,_=>none
 | .indexAddr t x i=>match opd f x,opd f i with
   |some a,some b=>some (.idxA t a b)
   |_,_=>none
 | .slice t x lo hi none=>match opd f x,vD f lo,vD f hi with
   |some a,some l,some h=>some (.slc t a l h)
   |_,_,_=>none
 | .convert s d x=>(opd f x).map (.conv s d)
 | .lookup t m k ok=>match opd f m,opd f k with
   |some a,some b=>some (.look t a b ok)
   |_,_=>none
 | .load t p=>(opd f p).map (.load t)
 | .fieldAddr s x i=>(opd f x).map (.fld s · i)
 | .nilCheck x=>(opd f x).map .nil
 | .typeAssert x _ t ok=>(opd f x).map (.asrt t ok)
 |_=>none
theorem uf{ρ:Va}{f:T XV}{fr:Fr}(hf:FM ρ f fr){o:Option Operand}{r:Option XV}(h:vD f o=some r):o.map fr.ev=qF ρ r:=by
 cases o with
 |none=>obtain rfl:=ab h;rfl
 |some x=>
  simp only[vD,aa]at h;obtain⟨v,hv,rfl⟩:=h;simp only[af,hf.opd hv,qF]
theorem mQ{ρ:Va}{f:T XV}{fr:Fr}(hf:FM ρ f fr){l:List Operand}{r:List XV}(h:iG f l=some r):l.map fr.ev=svL ρ r:=pG (S:=⟨f,[],[],[],{}⟩) hf h
theorem zo{P:Program}{Γ:Glob}{ρ:Va}{h:Hp}{f:T XV}{fr:Fr}{op:Op}{k:RK}{r:SV×List Fact}(hf:FM ρ f fr)(hk:I0 f op=some k)(hs:k.says P Γ ρ h r):quiet P Γ h fr.ev op=some r:=by
 unfold I0 at hk;split at hk
 .rename_i bop bt bx yy bz;split at hk
  .rename_i a b ha hb;cases hn:b.nilable&& !opC yy with
   |true=>rw[hn]at hk;cases hk
   |false=>
    rw[hn,bg]at hk;obtain rfl:=ab hk;simp only[quiet,hf.opd ha,hf.opd hb];refine Dt (y:=b.sv ρ) (Φ:=λxo yo=>one (binQ P bop bt xo yo (a.sv ρ) (b.sv ρ))=some r) hs (λe=>?_) _;cases hb2:b.nilable with
    |false=>exact absurd e (Bf hb2)
    |true=>rw[hb2]at hn;simpa using hn
  .cases hk
 .rw[aa]at hk;obtain⟨a,ha,rfl⟩:=hk;simp only[quiet,hf.opd ha];exact hs
 .split at hk
  .rename_i x t hx ht;rw[aa]at hk;obtain⟨a,ha,rfl⟩:=hk;simp only[quiet,hx,ht,hf.opd ha];exact hs
  .cases hk
 .rw[aa]at hk;obtain⟨a,ha,rfl⟩:=hk;simp only[quiet,mQ hf ha];exact hs
 .rw[aa]at hk;obtain⟨a,ha,rfl⟩:=hk;simp only[quiet,mQ hf ha];exact hs
 .split at hk
  .rename_i a b ha hb;obtain rfl:=ab hk;simp only[quiet,hf.opd ha,hf.opd hb];exact hs
  .cases hk
 .split at hk
  .rename_i a b ha hb;obtain rfl:=ab hk;simp only[quiet,hf.opd ha,hf.opd hb];exact hs
  .cases hk
 .split at hk
  .rename_i a l h' ha hl hh;obtain rfl:=ab hk;simp only[quiet,hf.opd ha,uf hf hl,uf hf hh,Option.map_none];exact hs
  .cases hk
 .rw[aa]at hk;obtain⟨a,ha,rfl⟩:=hk;simp only[quiet,hf.opd ha];exact hs
 .split at hk
  .rename_i a b ha hb;obtain rfl:=ab hk;simp only[quiet,hf.opd ha,hf.opd hb];exact hs
  .cases hk
 .rw[aa]at hk;obtain⟨a,ha,rfl⟩:=hk;simp only[quiet,hf.opd ha];exact hs
 .rw[aa]at hk;obtain⟨a,ha,rfl⟩:=hk;simp only[quiet,hf.opd ha];exact hs
 .rw[aa]at hk;obtain⟨a,ha,rfl⟩:=hk;simp only[quiet,hf.opd ha];exact hs
 .rw[aa]at hk;obtain⟨a,ha,rfl⟩:=hk;simp only[quiet,hf.opd ha];exact hs
 .cases hk
def vl:Option XV->Option XV->Bool
 |none,none=>true
 |some a,some b=>a.same b
 |_,_=>false
def kq:List Nat->List Nat->Bool
 |[],[]=>true
 |a::l,b::m=>Nat.beq a b&&kq l m
 |_,_=>false
theorem jM:∀{l m:List Nat},kq l m=true->l=m
 |[],[],_=>rfl
 |a::l,b::m,h=>by
  simp only[kq,a8]at h;rw[eq_of_beq h.1,jM h.2]
 |[],_::_,h=>by cases h
 |_::_,[],h=>by cases h
def RK.same:RK->RK->Bool
 | .bin o t x y,.bin o' t' x' y'=>decide (o=o')&&(Nat.beq t t'&&(x.same x'&&y.same y'))
 | .un o x,.un o' x'=>decide (o=o')&&x.same x'
 | .len t x,.len t' x'=>Nat.beq t t'&&x.same x'
 | .idx t x i,.idx t' x' i'=>Nat.beq t t'&&(x.same x'&&i.same i')
 | .idxA t x i,.idxA t' x' i'=>Nat.beq t t'&&(x.same x'&&i.same i')
 | .slc t x l h,.slc t' x' l' h'=>Nat.beq t t'&&(x.same x'&&(vl l l'&&vl h h'))
 | .conv s d x,.conv s' d' x'=>Nat.beq s s'&&(Nat.beq d d'&&x.same x')
 | .look t m k ok,.look t' m' k' ok'=>Nat.beq t t'&&(m.same m'&&(k.same k'&&ok==ok'))
 | .load t p,.load t' p'=>Nat.beq t t'&&p.same p'
 | .fld s x i,.fld s' x' i'=>Nat.beq s s'&&(x.same x'&&Nat.beq i i')
 | .nil x,.nil x'=>x.same x'
 | .asrt t ok x,.asrt t' ok' x'=>Nat.beq t t'&&(ok==ok'&&x.same x')
 | .mx t l,.mx t' l'=>kq t.toList t'.toList&&fX l l'
 | .mn t l,.mn t' l'=>kq t.toList t'.toList&&fX l l'
 |_,_=>false
theorem rI(ρ:Va){a b:Option XV}(h:vl a b=true):qF ρ a=qF ρ b:=by
 cases a<;>cases b<;>first|rfl|(cases h;done)|simp only[qF,XV.same_eq ρ _ _ h]
theorem RK.same_says{P:Program}{Γ:Glob}{ρ:Va}{h:Hp}{r:SV×List Fact}{a b:RK}(hs:RK.same a b=true)(hb:b.says P Γ ρ h r):a.says P Γ ρ h r:=by
 cases a<;>cases b<;>first|(cases hs;done)|skip
 all_goals simp only[RK.same,a8,ba,beq_iff_eq]at hs
 .obtain⟨rfl,h1,h2,h3⟩:=hs;simp only[RK.says,eq_of_beq h1,XV.same_eq ρ _ _ h2,XV.same_eq ρ _ _ h3];exact hb
 .obtain⟨rfl,h1⟩:=hs;simp only[RK.says,XV.same_eq ρ _ _ h1];exact hb
 .obtain⟨h1,h2⟩:=hs;simp only[RK.says,eq_of_beq h1,XV.same_eq ρ _ _ h2];exact hb
 .obtain⟨h1,h2,h3⟩:=hs;simp only[RK.says,eq_of_beq h1,XV.same_eq ρ _ _ h2,XV.same_eq ρ _ _ h3];exact hb
 .obtain⟨h1,h2,h3⟩:=hs;simp only[RK.says,eq_of_beq h1,XV.same_eq ρ _ _ h2,XV.same_eq ρ _ _ h3];exact hb
 .obtain⟨h1,h2,h3,h4⟩:=hs;simp only[RK.says,eq_of_beq h1,XV.same_eq ρ _ _ h2,rI ρ h3,rI ρ h4];exact hb
 .obtain⟨h1,h2,h3⟩:=hs;simp only[RK.says,eq_of_beq h1,eq_of_beq h2,XV.same_eq ρ _ _ h3];exact hb
 .obtain⟨h1,h2,h3,rfl⟩:=hs;simp only[RK.says,eq_of_beq h1,XV.same_eq ρ _ _ h2,XV.same_eq ρ _ _ h3];exact hb
 .obtain⟨h1,h2⟩:=hs;simp only[RK.says,eq_of_beq h1,XV.same_eq ρ _ _ h2];exact hb
 .obtain⟨h1,h2,h3⟩:=hs;simp only[RK.says,eq_of_beq h1,XV.same_eq ρ _ _ h2,eq_of_beq h3];exact hb
 .simp only[RK.says,XV.same_eq ρ _ _ hs];exact hb
 .obtain⟨h1,rfl,h3⟩:=hs;simp only[RK.says,eq_of_beq h1,XV.same_eq ρ _ _ h3];exact hb
 .obtain⟨h1,h2⟩:=hs;simp only[RK.says,aN.1 (jM h1),d6 ρ _ _ h2];exact hb
 .obtain⟨h1,h2⟩:=hs;simp only[RK.says,aN.1 (jM h1),d6 ρ _ _ h2];exact hb
inductive EK where
 |app (tys:List TypeId) (s x:XV)
 |copy (t:TypeId) (d s:XV)
 |upd (t:TypeId) (m k v:XV)
 |del (t:TypeId) (m k:XV)
 |mks (t:TypeId) (l c:XV)
 |store (t:TypeId) (p v:XV)
 |range (t:TypeId) (x:XV)
 |next (it:XV) (str:Bool)
 |entry (it:XV)
 |conv (s d:TypeId) (x:XV)
 |clear(t:TypeId) (x:XV)
 |clone (f:FuncId) (x:XV)
def EK.out(P:Program)(Γ:Glob)(ρ:Va)(h:Hp):EK->Option (List (SV×Hp))
 | .app tys s x=>val (cQ P Γ h tys (s.sv ρ) (x.sv ρ))
 | .copy t d s=>val (qA P Γ h t (d.sv ρ) (s.sv ρ))
 | .upd t m k v=>mi (fY P h t (m.sv ρ) (k.sv ρ) (v.sv ρ))
 | .del t m k=>done (pR P h t (m.sv ρ) (k.sv ρ))
 | .mks t l c=>val (ff P h t (l.sv ρ) (c.sv ρ))
 | .store t p v=>mi (dA P h t (p.sv ρ) (v.sv ρ))
 | .range t x=>val (jE P h t (x.sv ρ))
 | .next it str=>kE h (it.sv ρ) str
 | .entry it=>Ev.val (kW h (it.sv ρ))
 | .conv s d x=>bif(eb P Γ h s d (x.sv ρ)).isNone then val (k8 P h s d (x.sv ρ))else none
 | .clear t x=>done (uG P h t (x.sv ρ))
 | .clone f x=>(gw P h f [x.sv ρ]).map λr=>[r]
def y6(f:T XV):Op->Option EK
 | .call ⟨.builtin .append,args,tys⟩=>match iG f args.toList with
   |some [s,x]=>some (.app tys.toList s x)
   |_=>none
 | .call ⟨.builtin .copy,args,tys⟩=>match iG f args.toList,tys[0]? with
   |some [d,s],some t=>some (.copy t d s)
   |_,_=>none
 | .call ⟨.builtin .delete,args,tys⟩=>match iG f args.toList,tys[0]? with
   |some [m,k],some t=>some (.del t m k)
   |_,_=>none
 | .call ⟨.builtin .clear,args,tys⟩=>match iG f args.toList,tys[0]? with
   |some [x],some t=>some (.clear t x)
   |_,_=>none
 | .mapUpdate t m k v| .insert t m k v=>match opd f m,opd f k,opd f v with
   |some a,some b,some c=>some (.upd t a b c)
   |_,_,_=>none
 | .makeSlice t l c=>match opd f l,opd f c with
   |some a,some b=>some (.mks t a b)
   |_,_=>none
 | .store t p v=>match opd f p,opd f v with
   |some a,some b=>some (.store t a b)
   |_,_=>none
 | .range t x=>(opd f x).map (.range t)
 | .next it str=>(opd f it).map (.next · str)
 | .entry it=>(opd f it).map .entry
 | .convert s d x=>(opd f x).map (.conv s d)
 |_=>none
theorem qB{f:T XV}{l:List Operand}{a b:XV}(h:iG f l=some [a,b]):∃x y,l=[x,y]/\opd f x=some a/\opd f y=some b:=by
 match l,h with
 |[],h=>cases h
 |[x],h=>
  simp only[iG]at h;split at h
  .rename_i v r hv hr;cases hr;cases h
  .cases h
 |[x,y],h=>
  simp only[iG]at h;cases hx:opd f x with
  |none=>rw[hx]at h;cases h
  |some v=>cases hy:opd f y with
   |none=>rw[hx,hy]at h;cases h
   |some w=>
    rw[hx,hy]at h;simp only[a7,List.cons.injEq,and_true]at h;exact⟨x,y,rfl,by rw[hx,h.1],by rw[hy,h.2]⟩
 |x::y::z::l,h=>
  simp only[iG]at h;cases hx:opd f x with
  |none=>rw[hx]at h;cases h
  |some v=>cases hy:opd f y with
   |none=>rw[hx,hy]at h;cases h
   |some w=>cases hz:opd f z with
    |none=>rw[hx,hy,hz]at h;cases h
    |some u=>cases hl:iG f l with
     |none=>rw[hx,hy,hz,hl]at h;cases h
     |some r=>rw[hx,hy,hz,hl]at h;simp at h
theorem HM{f:T XV}{l:List Operand}{a:XV}(h:iG f l=some [a]):∃x,l=[x]/\opd f x=some a:=by
 match l,h with
 |[],h=>cases h
 |[x],h=>
  simp only[iG]at h;cases hx:opd f x with
  |none=>rw[hx]at h;cases h
  |some v=>
   rw[hx]at h;simp only[a7,List.cons.injEq,and_true]at h;exact⟨x,rfl,by rw[hx,h]⟩
 |x::y::l,h=>
  simp only[iG]at h;cases hx:opd f x with
  |none=>rw[hx]at h;cases h
  |some v=>cases hy:opd f y with
   |none=>rw[hx,hy]at h;cases h
   |some w=>cases hl:iG f l with
    |none=>rw[hx,hy,hl]at h;cases h
    |some r=>rw[hx,hy,hl]at h;simp at h
theorem Dx{P:Program}{Γ:Glob}{ρ:Va}{h:Hp}{f:T XV}{fr:Fr}{op:Op}{k:EK}(hf:FM ρ f fr)(hk:y6 f op=some k)(hn:∀s d x,k≠.conv s d x):effect P Γ h fr.ev op=k.out P Γ ρ h/\quiet P Γ h fr.ev op=none/\cz fr.ev op=none:=by
 unfold y6 at hk;split at hk
 .split at hk
  .rename_i s x hx;obtain rfl:=ab hk;obtain⟨a,b,hl,ha,hb⟩:=qB hx;exact⟨by simp only[effect,hl,hf.opd ha,hf.opd hb,EK.out],rfl,rfl⟩
  .cases hk
 .split at hk
  .rename_i s x t hx ht;obtain rfl:=ab hk;obtain⟨a,b,hl,ha,hb⟩:=qB hx;exact⟨by simp only[effect,hl,ht,hf.opd ha,hf.opd hb,EK.out],rfl,rfl⟩
  .cases hk
 .split at hk
  .rename_i s x t hx ht;obtain rfl:=ab hk;obtain⟨a,b,hl,ha,hb⟩:=qB hx;exact⟨by simp only[effect,hl,ht,hf.opd ha,hf.opd hb,EK.out],rfl,rfl⟩
  .cases hk
 .split at hk
  .rename_i x t hx ht;obtain rfl:=ab hk;obtain⟨a,hl,ha⟩:=HM hx;exact⟨by simp only[effect,hl,ht,hf.opd ha,EK.out],rfl,rfl⟩
  .cases hk
 .split at hk
  .rename_i a b c ha hb hc;obtain rfl:=ab hk;exact⟨by simp only[effect,hf.opd ha,hf.opd hb,hf.opd hc,EK.out],rfl,rfl⟩
  .cases hk
 .split at hk
  .rename_i a b c ha hb hc;obtain rfl:=ab hk;exact⟨by simp only[effect,hf.opd ha,hf.opd hb,hf.opd hc,EK.out],rfl,rfl⟩
  .cases hk
 .split at hk
  .rename_i a b ha hb;obtain rfl:=ab hk;exact⟨by simp only[effect,hf.opd ha,hf.opd hb,EK.out],rfl,rfl⟩
  .cases hk
 .split at hk
  .rename_i a b ha hb;obtain rfl:=ab hk;exact⟨by simp only[effect,hf.opd ha,hf.opd hb,EK.out],rfl,rfl⟩
  .cases hk
 .rw[aa]at hk;obtain⟨a,ha,rfl⟩:=hk;exact⟨by simp only[effect,hf.opd ha,EK.out],rfl,rfl⟩
 .rw[aa]at hk;obtain⟨a,ha,rfl⟩:=hk;exact⟨by simp only[effect,hf.opd ha,EK.out],rfl,rfl⟩
 .rw[aa]at hk;obtain⟨a,ha,rfl⟩:=hk;exact⟨by simp only[effect,hf.opd ha,EK.out],rfl,rfl⟩
 .rw[aa]at hk;obtain⟨a,ha,rfl⟩:=hk;exact absurd rfl (hn _ _ _)
 .cases hk
theorem rX{P:Program}{Γ:Glob}{ρ:Va}{h:Hp}{f:T XV}{fr:Fr}{op:Op}{k:EK}{outs:List (SV×Hp)}(hf:FM ρ f fr)(hk:y6 f op=some k)(ho:k.out P Γ ρ h=some outs):effect P Γ h fr.ev op=some outs/\quiet P Γ h fr.ev op=none/\cz fr.ev op=none:=by
 by_cases hc:∃s d x,op=.convert s d x
 .obtain⟨s,d,x,rfl⟩:=hc;simp only[y6,aa]at hk;obtain⟨a,ha,rfl⟩:=hk;simp only[EK.out]at ho;cases hq:eb P Γ h s d (a.sv ρ)with
  |some _=>rw[hq]at ho;cases ho
  |none=>
   rw[hq]at ho;exact⟨by simp only[effect,hf.opd ha];exact ho,by simp only[quiet,hf.opd ha,hq],rfl⟩
 .obtain⟨h1,h2,h3⟩:=Dx (P:=P) (Γ:=Γ) (h:=h) hf hk (λs d x he=>by
   subst he;unfold y6 at hk;split at hk<;>first
    |(split at hk<;>cases hk;done)
    |(rw[aa]at hk;obtain⟨_,_,he⟩:=hk;cases he;done)
    |(exact hc ⟨_,_,_,rfl⟩)
    |cases hk)
  exact⟨h1.trans ho,h2,h3⟩
def EK.same:EK->EK->Bool
 | .app t s x,.app t' s' x'=>kq t t'&&(s.same s'&&x.same x')
 | .copy t s x,.copy t' s' x'=>Nat.beq t t'&&(s.same s'&&x.same x')
 | .upd t m k v,.upd t' m' k' v'=>Nat.beq t t'&&(m.same m'&&(k.same k'&&v.same v'))
 | .del t m k,.del t' m' k'=>Nat.beq t t'&&(m.same m'&&k.same k')
 | .mks t m k,.mks t' m' k'=>Nat.beq t t'&&(m.same m'&&k.same k')
 | .store t m k,.store t' m' k'=>Nat.beq t t'&&(m.same m'&&k.same k')
 | .range t x,.range t' x'=>Nat.beq t t'&&x.same x'
 | .next x b,.next x' b'=>x.same x'&&b==b'
 | .entry x,.entry x'=>x.same x'
 | .clear t x,.clear t' x'=>Nat.beq t t'&&x.same x'
 | .conv s d x,.conv s' d' x'=>Nat.beq s s'&&(Nat.beq d d'&&x.same x')
 | .clone f x,.clone f' x'=>Nat.beq f f'&&x.same x'
 |_,_=>false
def EK.clone?:EK->Option (FuncId×XV)
 | .clone f x=>some (f,x)
 |_=>none
theorem EK.clone_eq{k:EK}{x:FuncId×XV}(h:k.clone?=some x):k=.clone x.1 x.2:=by
 cases k<;>first|(cases h;done)|(cases h;rfl)
theorem EK.same_out{P:Program}{Γ:Glob}{ρ:Va}{h:Hp}{a b:EK}(hs:EK.same a b=true):a.out P Γ ρ h=b.out P Γ ρ h:=by
 cases a<;>cases b<;>first|(cases hs;done)|skip
 all_goals simp only[EK.same,a8,beq_iff_eq]at hs
 .simp only[EK.out,jM hs.1,XV.same_eq ρ _ _ hs.2.1,XV.same_eq ρ _ _ hs.2.2]
 .simp only[EK.out,eq_of_beq hs.1,XV.same_eq ρ _ _ hs.2.1,XV.same_eq ρ _ _ hs.2.2]
 .simp only[EK.out,eq_of_beq hs.1,XV.same_eq ρ _ _ hs.2.1,XV.same_eq ρ _ _ hs.2.2.1,XV.same_eq ρ _ _ hs.2.2.2]
 .simp only[EK.out,eq_of_beq hs.1,XV.same_eq ρ _ _ hs.2.1,XV.same_eq ρ _ _ hs.2.2]
 .simp only[EK.out,eq_of_beq hs.1,XV.same_eq ρ _ _ hs.2.1,XV.same_eq ρ _ _ hs.2.2]
 .simp only[EK.out,eq_of_beq hs.1,XV.same_eq ρ _ _ hs.2.1,XV.same_eq ρ _ _ hs.2.2]
 .simp only[EK.out,eq_of_beq hs.1,XV.same_eq ρ _ _ hs.2]
 .simp only[EK.out,XV.same_eq ρ _ _ hs.1,hs.2]
 .simp only[EK.out,XV.same_eq ρ _ _ hs]
 .simp only[EK.out,eq_of_beq hs.1,eq_of_beq hs.2.1,XV.same_eq ρ _ _ hs.2.2]
 .simp only[EK.out,eq_of_beq hs.1,XV.same_eq ρ _ _ hs.2]
 .simp only[EK.out,eq_of_beq hs.1,XV.same_eq ρ _ _ hs.2]
def Ek{α:Type}(p:α->Bool):T α->Bool
 | .leaf=>true
 | .node l v r=>Ek p l&&((match v with
   |some x=>p x
   |none=>true)&&Ek p r)
theorem rL{α:Type}{p:α->Bool}:∀{t:T α} {k:Nat} {v:α},Ek p t=true->t.get k=some v->p v=true
 | .leaf,_,_,_,h=>by cases h
 | .node l x r,k,v,ha,h=>by
   simp only[Ek,a8]at ha;rw[T.get_node]at h;split at h
   .rw[h]at ha;exact ha.2.1
   .split at h
    .exact rL ha.1 h
    .exact rL ha.2.2 h
def MI.sc(c:Cnt):MI->Bool
 | .blk n cs _=>Nat.blt n c.n&&scL c cs
 | .obj n _=>Nat.blt n c.n
 | .asr k=>Nat.blt k c.a
theorem MI.den_agree{c:Cnt}{ρ ρ':Va}(h:Agree c ρ ρ'){m:MI}(hs:m.sc c=true):m.den ρ'=m.den ρ:=by
 cases m with
 |blk n cs e=>
  simp only[MI.sc,a8]at hs;simp only[MI.den,h.n n (ca hs.1),fB h cs hs.2]
 |obj n o=>simp only[MI.den,h.n n (ca hs)]
 |asr k=>exact h.a k (ca hs)
theorem iH{c:Cnt}{ρ ρ':Va}(h:Agree c ρ ρ'):∀{l:List MI},l.all (MI.sc c)=true->l.map (MI.den ρ')=l.map (MI.den ρ)
 |[],_=>rfl
 |m::l,hs=>by
  simp only[al,a8]at hs;rw[ax,ax,MI.den_agree h hs.1,iH h hs.2]
def qh:AObj->AObj->Bool
 | .map [] c,.map [] c'=>Nat.beq c c'
 | .deferred b,.deferred b'=>b==b'
 |_,_=>false
theorem yx{a b:AObj}(h:qh a b=true):a=b:=by
 unfold qh at h;split at h
 .rw[eq_of_beq h]
 .rw[beq_iff_eq.1 h]
 .cases h
def MI.same:MI->MI->Bool
 | .blk n cs e,.blk n' cs' e'=>Nat.beq n n'&&(fX cs cs'&&Nat.beq e e')
 | .obj n o,.obj n' o'=>Nat.beq n n'&&qh o o'
 | .asr k,.asr k'=>Nat.beq k k'
 |_,_=>false
theorem MI.same_eq(ρ:Va){a b:MI}(h:a.same b=true):a.den ρ=b.den ρ:=by
 cases a<;>cases b<;>first|(cases h;done)|skip
 all_goals simp only[MI.same,a8]at h
 .simp only[MI.den,eq_of_beq h.1,d6 ρ _ _ h.2.1,eq_of_beq h.2.2]
 .simp only[MI.den,eq_of_beq h.1,yx h.2]
 .simp only[MI.den,eq_of_beq h]
def rH(m:MI):List MI->Option (List MI)
 |[]=>none
 |x::l=>bif m.same x then some l else(rH m l).map (x::·)
def eg:List MI->List MI->Option (List MI)
 |[],l=>some l
 |m::k,l=>(rH m l).bind (eg k)
theorem mz(ρ:Va){m:MI}:∀{l r:List MI},rH m l=some r->(l.map (MI.den ρ)).Perm (m.den ρ::r.map (MI.den ρ))
 |x::l,r,h=>by
  unfold rH at h;cases hs:m.same x with
  |true=>
   rw[hs,bf,a7]at h;rw[<-h,ax,MI.same_eq ρ hs]
  |false=>
   rw[hs,bg,aa]at h;obtain⟨r',hr,rfl⟩:=h;rw[ax,ax];exact((mz ρ hr).cons _).trans (List.Perm.swap ..)
theorem lx(ρ:Va):∀{k l r:List MI},eg k l=some r->(l.map (MI.den ρ)).Perm (k.map (MI.den ρ)++r.map (MI.den ρ))
 |[],l,r,h=>by rw[eg,a7]at h;rw[h];exact List.Perm.refl _
 |m::k,l,r,h=>by
  obtain⟨l',h1,h2⟩:=aJ.1 h;exact(mz ρ h1).trans ((lx ρ h2).cons _)
theorem xL{c:Cnt}{m:MI}:∀{l r:List MI},rH m l=some r->l.all (MI.sc c)=true->r.all (MI.sc c)=true
 |x::l,r,h,ha=>by
  simp only[al,a8]at ha;unfold rH at h;cases hs:m.same x with
  |true=>
   rw[hs,bf,a7]at h;rw[<-h];exact ha.2
  |false=>
   rw[hs,bg,aa]at h;obtain⟨r',hr,rfl⟩:=h;simp only[al,ha.1,xL hr ha.2,aF]
theorem th{c:Cnt}:∀{k l r:List MI},eg k l=some r->l.all (MI.sc c)=true->r.all (MI.sc c)=true
 |[],l,r,h,ha=>by rw[eg,a7]at h;rw[<-h];exact ha
 |m::k,l,r,h,ha=>by
  obtain⟨l',h1,h2⟩:=aJ.1 h;exact th h2 (xL h1 ha)
theorem gr{n:Nat}{cs:List XV}{e:TypeId}:∀{l:List MI},getBlk n l=some (cs,e)->∃a b,l=a++.blk n cs e::b
 | .blk m ds e'::l,h=>by
   unfold getBlk at h;cases hb:Nat.beq n m with
   |true=>
    rw[hb,bf,a7,ap]at h;rw[eq_of_beq hb,<-h.1,<-h.2];exact⟨[],l,rfl⟩
   |false=>
    rw[hb,bg]at h;obtain⟨a,b,rfl⟩:=gr h;exact⟨_::a,b,rfl⟩
 | .obj _ _::l,h=>by
   obtain⟨a,b,rfl⟩:=gr (l:=l) h;exact⟨_::a,b,rfl⟩
 | .asr _::l,h=>by
   obtain⟨a,b,rfl⟩:=gr (l:=l) h;exact⟨_::a,b,rfl⟩
 |[],h=>by cases h
def lk(n:Nat)(ds:List XV):List MI->List MI
 |[]=>[]
 | .blk m cs e::l=>bif Nat.beq n m then .blk m ds e::l else .blk m cs e::lk n ds l
 |x::l=>x::lk n ds l
theorem iv{n:Nat}{cs ds:List XV}{e:TypeId}:∀{l:List MI},getBlk n l=some (cs,e)->∃a b,l=a++.blk n cs e::b/\lk n ds l=a++.blk n ds e::b
 | .blk m cs' e'::l,h=>by
   unfold getBlk at h;unfold lk;cases hb:Nat.beq n m with
   |true=>
    rw[hb,bf,a7,ap]at h;rw[eq_of_beq hb,<-h.1,<-h.2];exact⟨[],l,rfl,rfl⟩
   |false=>
    rw[hb,bg]at h;obtain⟨a,b,e1,e2⟩:=iv h;exact⟨_::a,b,by rw[e1];rfl,by rw[bg,e2];rfl⟩
 | .obj _ _::l,h=>by
   obtain⟨a,b,e1,e2⟩:=iv (l:=l) h;exact⟨_::a,b,by rw[e1];rfl,by show _::lk n ds l=_;rw[e2];rfl⟩
 | .asr _::l,h=>by
   obtain⟨a,b,e1,e2⟩:=iv (l:=l) h;exact⟨_::a,b,by rw[e1];rfl,by show _::lk n ds l=_;rw[e2];rfl⟩
 |[],h=>by cases h
theorem kw{i:Nat}{cs:List XV}:∀{l:List (Nat×List XV)},getWin i l=some cs->(i,cs)∈l
 |(j,ds)::l,h=>by
  unfold getWin at h;cases hb:Nat.beq i j with
  |true=>
   rw[hb,bf,a7]at h;rw[eq_of_beq hb,h];exact ak ..
  |false=>
   rw[hb,bg]at h;exact am _ (kw h)
structure Sym extends Sy where
 mks:List Nat:=[]
theorem Cv{Γ:Glob}{Z h:Hp}(hz:∀b o,Z.objs.get b=some o->h.objs.get b=some o)(hl:∀b o,Z.objs.get b=some o->b<h.next){p:SV}{cs:List SV}(w:PtrTo Γ Z p cs):PtrTo Γ h p cs:=by
 rcases w with⟨b,o,rfl,w⟩|w
 .obtain⟨l,h1,h2⟩:=w.get;obtain⟨ob,hob⟩:∃ob,Z.objs.get b=some ob:=by
   cases e:Z.objs.get b with
   |none=>simp only[knownCells,e]at h1;cases h1
   |some ob=>exact⟨ob,rfl⟩
  refine .inl ⟨b,o,rfl,⟨hl b ob hob,l,?_,h2⟩⟩;simp only[knownCells,hz b ob hob];simp only[knownCells,hob]at h1;exact h1
 .exact .inr w
theorem vU{Γ:Glob}{Z Z':Hp}(hz:Sub Z Z'){p:SV}{cs:List SV}(w:PtrTo Γ Z p cs):PtrTo Γ Z' p cs:=by
 rcases w with⟨b,o,rfl,w⟩|w
 .obtain⟨l,h1,h2⟩:=w.get;refine .inl ⟨b,o,rfl,⟨aM w.lt hz.1,l,?_,h2⟩⟩;cases e:Z.objs.get b with
  |none=>simp only[knownCells,e]at h1;cases h1
  |some ob=>
   simp only[knownCells,hz.2 b ob e];simp only[knownCells,e]at h1;exact h1
 .exact .inr w
structure Ok(Γ:Glob)(ρ:Va)(Z:Hp)(l:List Asrt)(S:Sym)(ms:List Nat)(fr:Fr)(h:Hp):Prop where
 f:FM ρ S.f fr
 st:St Z (S.mem.map (MI.den ρ)++l) h
 asm:AsmOk ρ S.asm
 win:∀x∈S.win,PtrTo Γ Z (ρ.r x.1) (svL ρ x.2)
 mks:ms=S.mks.map ρ.n
section
variable {P:Program}{Γ:Glob}{ρ:Va}{Z:Hp}{l:List Asrt}{S:Sym}{ms:List Nat}{fr:Fr}{h:Hp}
theorem Ok.blk(o:Ok Γ ρ Z l S ms fr h){n:Nat}{cs:List XV}{e:TypeId}(hg:getBlk n S.mem=some (cs,e)):h.objs.get (ρ.n n)=some (.cells (svL ρ cs) e)/\ρ.n n<h.next:=by
 obtain⟨a,b,hs⟩:=gr hg;have:=o.st;rw[hs,aH,ax,aC,List.cons_append]at this;exact this.get
theorem Ok.mem(o:Ok Γ ρ Z l S ms fr h):Mem Γ ρ S.toSy h:=⟨λ_ _ _ hg=>(o.blk hg).1,λi cs hc=>Cv o.st.frz o.st.zlt (o.win (i,cs) (kw hc))⟩
def Sym.sc(S:Sym):Bool:=Ek (XV.sc S.c) S.f&&(S.mem.all (MI.sc S.c)&&(S.asm.all (λx=>x.1.sc S.c)&&(S.win.all (λx=>Nat.blt x.1 S.c.r&&scL S.c x.2)&&S.mks.all λn=>Nat.blt n S.c.n)))
theorem FM.agree{c:Cnt}{ρ':Va}{f:T XV}(ha:Agree c ρ ρ')(hs:Ek (XV.sc c) f=true)(hf:FM ρ f fr):FM ρ' f fr:=λk v hk=>(hf k v hk).trans (v.sv_agree ha (rL hs hk)).symm
theorem Ok.ext{ρ':Va}{Z':Hp}{mem:List MI}{d:Cnt}{h':Hp}(o:Ok Γ ρ Z l S ms fr h)(hs:S.sc=true)(ha:Agree S.c ρ ρ')(hz:Sub Z Z')(hst:St Z' (mem.map (MI.den ρ')++l) h'):Ok Γ ρ' Z' l {S with mem:=mem,c:=d} ms fr h':=by
 simp only[Sym.sc,a8]at hs;obtain⟨h1,h2,h3,h4,h5⟩:=hs;refine⟨o.f.agree ha h1,hst,λx hx=>?_,λx hx=>?_,?_⟩
 .rw[x.1.den_agree ha (aE.1 h3 x hx)];exact o.asm x hx
 .have hx2:=aE.1 h4 x hx;simp only[a8]at hx2;rw[ha.r _ (ca hx2.1),fB ha _ hx2.2];exact vU hz (o.win x hx)
 .rw[o.mks];exact List.map_congr_left λn hn=>(ha.n n (ca (aE.1 h5 n hn))).symm
end
inductive Ct where
 |vc (b:X) (t:Ct)
 |fork (b:X) (t e:Ct)
 |new (t:Ct)
 |newL (ns:List Nat) (k:List MI) (t:Ct)
 |call (f:Nat) (args:List XV) (k:List MI) (nv:XV) (nm:List MI) (d:Cnt) (t:Ct)
 |round (n:Nat) (args:List XV) (k:List MI) (nv:XV) (nm:List MI) (d:Cnt) (t:Ct)
 |row (key:RK) (k:List MI) (nv:XV) (d:Cnt) (t:Ct)
 |eff (key:EK) (k:List MI) (nv:XV) (nm:List MI) (d:Cnt) (t:Ct)
 |eff2 (key:EK) (k:List MI) (nv:XV) (nm:List MI) (d:Cnt) (t:Ct) (nv':XV) (nm':List MI) (d':Cnt) (t':Ct)
 |swap (k nm:List MI) (d:Cnt) (t:Ct)
 |win (i:Nat) (cs:List XV) (d:Cnt) (t:Ct)
 |ret (v:XV) (mem:List MI)
 |fin (e:SExit) (fr:List (Nat×XV)) (mem:List MI)
 |stop (p:List Nat) (fr:List (Nat×XV)) (mem:List MI)
 |no
structure Cx where
 P:Program
 Γ:Glob
 c0:Code
 ro:Option Nat
 nt:Nat
 ms:List Nat
 l:List Asrt
 Φ:Out->Prop
 Post:SV->Hp->Prop
def cR(ρ:Va)(k:List MI):List Asrt:=k.map (MI.den ρ)
def den(C:Cx):Ct->Cnt->Va->Hp->Prop
 | .vc b t,c,ρ,Z=>b.prop ρ/\den C t c ρ Z
 | .fork b t e,c,ρ,Z=>(b.prop ρ->den C t c ρ Z)/\(¬b.prop ρ->den C e c ρ Z)
 | .new t,c,ρ,Z=>∀b,den C t c.n1 (ρ.ext c {n:=[b]}) Z
 | .newL ns k t,c,ρ,Z=>(∀l h,St Z (cR ρ k++l) h->∀n∈ns,ρ.n n<h.next)/\∀b,den C t c.n1 (ρ.ext c {n:=[b]}) Z
 | .call f args k nv nm d t,c,ρ,Z=>∀l h,St Z (cR ρ k++l) h->Runs C.P C.Γ (.call f (svL ρ args) h) λo=>∃Z' e,Sub Z Z'/\o.v=nv.sv (ρ.ext c e)/\St Z' (cR (ρ.ext c e) nm++l) o.hp/\den C t d (ρ.ext c e) Z'
 | .round n args k nv nm d t,c,ρ,Z=>∀l h,St Z (cR ρ k++l) h->Runs C.P C.Γ (.round (ρ.n n) (svL ρ args) h) λo=>∃Z' e,Sub Z Z'/\o.v=nv.sv (ρ.ext c e)/\St Z' (cR (ρ.ext c e) nm++l) o.hp/\den C t d (ρ.ext c e) Z'
 | .row key k nv d t,c,ρ,Z=>∀l h,St Z (cR ρ k++l) h->∃e fs,key.says C.P C.Γ ρ h (nv.sv (ρ.ext c e),fs)/\den C t d (ρ.ext c e) Z
 | .eff key k nv nm d t,c,ρ,Z=>∀l h,St Z (cR ρ k++l) h->∃outs,key.out C.P C.Γ ρ h=some outs/\∀x∈outs,h.next<=x.2.next/\∃Z' e,Sub Z Z'/\x.1=nv.sv (ρ.ext c e)/\St Z' (cR (ρ.ext c e) nm++l) x.2/\den C t d (ρ.ext c e) Z'
 | .eff2 key k nv nm d t nv' nm' d' t',c,ρ,Z=>∀l h,St Z (cR ρ k++l) h->∃outs,key.out C.P C.Γ ρ h=some outs/\∀x∈outs,h.next<=x.2.next/\∃Z' e,Sub Z Z'/\((x.1=nv.sv (ρ.ext c e)/\St Z' (cR (ρ.ext c e) nm++l) x.2/\den C t d (ρ.ext c e) Z')\/(x.1=nv'.sv (ρ.ext c e)/\St Z' (cR (ρ.ext c e) nm'++l) x.2/\den C t' d' (ρ.ext c e) Z'))
 | .swap k nm d t,c,ρ,Z=>∀l h,St Z (cR ρ k++l) h->∃Z' e,Sub Z Z'/\St Z' (cR (ρ.ext c e) nm++l) h/\den C t d (ρ.ext c e) Z'
 | .win i cs d t,c,ρ,Z=>∃e,PtrTo C.Γ Z ((ρ.ext c e).r i) (svL (ρ.ext c e) cs)/\den C t d (ρ.ext c e) Z
 | .ret v mem,_,ρ,Z=>∀h,St Z (cR ρ mem++C.l) h->C.Post (v.sv ρ) h
 | .fin e fr mem,_,ρ,Z=>∀tm h v,(∀x∈fr,Fr.ev ⟨tm,C.nt,C.ms⟩ (.tmp x.1)=x.2.sv ρ)->St Z (cR ρ mem++C.l) h->C.Φ ⟨e,⟨tm,C.nt,C.ms⟩,h,v⟩
 | .stop p fr mem,_,ρ,Z=>∀K c,kat C.c0 p=some (K,c)->∀tm h,(∀x∈fr,Fr.ev ⟨tm,C.nt,C.ms⟩ (.tmp x.1)=x.2.sv ρ)->St Z (cR ρ mem++C.l) h->Runs C.P C.Γ (.code c C.ro ⟨tm,C.nt,C.ms⟩ h) (aft C.P C.Γ C.ro C.Φ K)
 | .no,_,_,_=>False
inductive DK where
 |li (x:LI)
 |any
 |on (n:Nat)
 |chg (n:Nat)
 |last
structure DH where
 desc:Nat
 kd:DK
inductive Mode where
 |run (c:Code)
 |pop (e:SExit)
 |ops (ops:Array Oper) (l:List Oper)
 |take (ops:Array Oper) (l:List Oper) (i mask k:Nat) (ds:List DH)
abbrev pw:=Mode->Stk->Sym->Ct->Bool
inductive Want where
 |yes (b:Bool)
 |fork (e:X)
 |no
def uA(nt:Nat)(S:Sym)(ops:Array Oper)(o:Oper):Want:=match o.guard with
 |none=>.yes true
 |some (j,want)=>match(ops[j]?).bind (·.dst)with
  |none=>.yes false
  |some t=>bif Nat.blt t nt then(match S.f.get t with
   |some (.bool e)=>match e.dec S.asm with
    |some b=>.yes (b==want)
    |none=>.fork e
   |some (.lit (.bool b))=>.yes (b==want)
   |some (.lit _)=>.yes false
   |_=>.no)else .yes false
def LV(nt:Nat)(o:Oper)(v:XV)(S:Sym):Option Sym:=match o.dst with
 |none=>some S
 |some d=>bif Nat.blt d nt then some {S with f:=S.f.set d v}else none
def X.base:X->X
 | .not a=>a.base
 |e=>e
def kr(e:X)(go:Sym->Ct->Bool)(S:Sym)(t:Ct):Bool:=match t with
 | .fork b t1 t2=>b.same e.base&&(go {S with asm:=(e.base,true)::S.asm} t1&&go {S with asm:=(e.base,false)::S.asm} t2)
 |_=>false
def wN(go:Ct->Bool):List X->Ct->Bool
 |[],t=>go t
 |b::l,.vc b' t=>b'.same b&&wN go l t
 |_::_,_=>false
def frOk(f:T XV):List (Nat×XV)->Bool
 |[]=>true
 |(i,v)::l=>(match f.get i with
  |some w=>v.same w
  |none=>false)&&frOk f l
def gj(nt:Nat)(o:Oper)(v:XV)(S:Sym)(go:Sym->Bool):Bool:=match LV nt o v S with
 |some S'=>go S'
 |none=>false
def pF(f:T XV)(op:Op):Option (FuncId×List XV):=match op with
 | .call ⟨.value g,args,_⟩=>match opd f g,iG f args.toList with
   |some (.fn id a b),some xs=>some (id,a++xs++b)
   |some (.lit (.func (.func id) a b)),some xs=>some (id,a.toList.map l7++xs++b.toList.map l7)
   |_,_=>none
 |_=>none
def zT(f:T XV)(op:Op):Option (Nat×List XV):=match op with
 | .call ⟨.value g,args,_⟩=>match opd f g,iG f args.toList with
   |some (.yield n),some xs=>some (n,xs)
   |_,_=>none
 |_=>none
def oH(P:Program)(f:FuncId):Bool:=match P.funcs[f]? with
 |some fn=>fn.body.isSome
 |none=>false
def yq(P:Program)(S:Sym)(op:Op):Option (XV×MI):=match op with
 | .alloc e=>(dB P e).map λz=>(.ptr S.c.n 0,.blk S.c.n (XV.cells (.lit z)) e)
 | .box e x=>(opd S.f x).map λv=>(.ptr S.c.n 0,.blk S.c.n v.cells e)
 | .buildSlice t len parts=>match tyU P t,El S.f parts.toList with
   |some (.slice e),some ps=>match bI P e,dB P e with
    |some size,some z=>bif Nat.ble (len*size) 16777216&&Nat.beq (XV.cells (.lit z)).length size then
     (rj (λi=>some (i*size,size)) (bif Nat.beq (len*size) 0 then[]else(List.replicate len (XV.cells (.lit z))).flatten) ps).map λl=>(.slice S.c.n 0 len len,.blk S.c.n l e)
     else none
    |_,_=>none
   |_,_=>none
 | .makeMap t none=>match tyU P t with
   |some (.map _ _)=>some (.map S.c.n,.obj S.c.n (.map [] 0))
   |_=>none
 | .makeMap t (some x)=>match tyU P t,opd S.f x with
   |some (.map _ _),some (.int _ _)=>some (.map S.c.n,.obj S.c.n (.map [] 0))
   |_,_=>none
 |_=>none
def i7(P:Program)(S:Sym)(op:Op):Option Sym:=match op with
 | .store t a x=>match opd S.f a,opd S.f x with
   |some (.ptr n off),some v=>match getBlk n S.mem,bI P t with
    |some (cs,_),some m=>bif Nat.beq v.cells.length m then(pH cs off v.cells).map λds=>{S with mem:=lk n ds S.mem}else none
    |_,_=>none
   |_,_=>none
 |_=>none
def uT(P:Program)(nt:Nat)(o:Oper)(S:Sym)(t:Ct)(go:Sym->Ct->Bool):Bool:=match i7 P S o.op with
 |some S'=>gj nt o (.lit undef) S' λS'=>go S' t
 |none=>match t with
  | .new t'=>match yq P S o.op with
    |some x=>S.sc&&gj nt o x.1 {S with mem:=x.2::S.mem,c:=S.c.n1} λS'=>go S' t'
    |none=>false
  |_=>false
def uD(P:Program)(nt:Nat)(o:Oper)(S:Sym)(t:Ct)(go:Sym->Ct->Bool):Bool:=match t with
 | .call f args k nv nm d t'=>match pF S.f o.op,eg k S.mem with
   |some x,some rest=>Nat.beq f x.1&&(fX args x.2&&(oH P f&&(S.sc&&gj nt o nv {S with mem:=nm++rest,c:=d} λS'=>go S' t')))
   |_,_=>false
 | .round n args k nv nm d t'=>match zT S.f o.op,eg k S.mem with
   |some x,some rest=>Nat.beq n x.1&&(fX args x.2&&(S.sc&&gj nt o nv {S with mem:=nm++rest,c:=d} λS'=>go S' t'))
   |_,_=>false
 | .eff key k nv nm d t'=>match key.clone? with
   |some y=>(match pF S.f o.op,eg k S.mem with
    |some x,some rest=>Nat.beq y.1 x.1&&(fX [y.2] x.2&&(S.sc&&gj nt o nv {S with mem:=nm++rest,c:=d} λS'=>go S' t'))
    |_,_=>false)
   |none=>(match y6 S.f o.op,eg k S.mem with
    |some key',some rest=>EK.same key' key&&(S.sc&&gj nt o nv {S with mem:=nm++rest,c:=d} λS'=>go S' t')
    |_,_=>false)
 | .eff2 key k nv nm d t1 nv' nm' d' t2=>match y6 S.f o.op,eg k S.mem with
   |some key',some rest=>EK.same key' key&&(S.sc&&(gj nt o nv {S with mem:=nm++rest,c:=d} (λS'=>go S' t1)&&gj nt o nv' {S with mem:=nm'++rest,c:=d'} λS'=>go S' t2))
   |_,_=>false
 |t=>uT P nt o S t go
def B8(P:Program)(nt:Nat)(o:Oper)(S:Sym)(t:Ct)(go:Sym->Ct->Bool):Bool:=match i7 P S o.op with
 |some _=>uT P nt o S t go
 |none=>uD P nt o S t go
def rowOf(S:Sym)(o:Oper)(t:Ct):Option (RK×RK×List MI×XV×Cnt×Ct):=match I0 S.f o.op,t with
 |some key',.row key k nv d t'=>some (key',key,k,nv,d,t')
 |_,_=>none
theorem wI{S:Sym}{o:Oper}{t:Ct}{key' key:RK}{k:List MI}{nv:XV}{d:Cnt}{t':Ct}(h:rowOf S o t=some (key',key,k,nv,d,t')):I0 S.f o.op=some key'/\t=.row key k nv d t':=by
 unfold rowOf at h;split at h
 .rename_i hk;cases h;exact⟨hk,rfl⟩
 .cases h
def uJ(P:Program)(nt:Nat)(self:pw)(ops:Array Oper)(l:List Oper)(K:Stk)(S:Sym)(t:Ct):Bool:=match l with
 |[]=>self (.pop .normal) K S t
 |o::r=>match uA nt S ops o with
  | .no=>false
  | .fork e=>kr e (λS' t'=>self (.ops ops l) K S' t') S t
  | .yes false=>gj nt o (.lit undef) S λS'=>self (.ops ops r) K S' t
  | .yes true=>match qd P S.toSy o.op with
    | .ok v vc _=>wN (λt'=>gj nt o v S λS'=>self (.ops ops r) K S' t') vc t
    | .fork e=>kr e (λS' t'=>self (.ops ops l) K S' t') S t
    | .no=>match rowOf S o t with
      |some (key',key,k,nv,d,t')=>match eg k S.mem with
       |some _=>RK.same key' key&&(S.sc&&gj nt o nv {S with c:=d} λS'=>self (.ops ops r) K S' t')
       |none=>false
      |none=>B8 P nt o S t λS' t'=>self (.ops ops r) K S' t'
def lr(i n:Nat)(ds:List DH):Bool:=ds.any λd=>match d.kd with
 | .chg m=>Nat.beq m n&& !Nat.testBit d.desc i
 |_=>false
def qv(i:Nat)(ds:List DH)(mem:List MI):List MI:=mem.filter λm=>match m with
 | .blk n _ _=> !lr i n ds
 | .obj n _=> !lr i n ds
 | .asr _=>true
def fM(i:Nat)(ds:List DH):Bool:=ds.all λd=>match d.kd with
 | .chg _=>Nat.testBit d.desc i
 | .last=>false
 |_=>true
def mB(n:Nat)(mem:List MI):Bool:=mem.any λm=>match m with
 | .blk k _ _=>Nat.beq n k
 | .obj k _=>Nat.beq n k
 | .asr _=>false
def dM(ds:List DH)(mem:List MI):Bool:=ds.all λd=>match d.kd with
 | .chg n=>mB n mem
 | .li (.blk n _ _)=>mB n mem
 | .last=>false
 |_=>true
def jF(i n:Nat)(win:List (Nat×List XV))(ds:List DH):Bool:=ds.all λd=>Nat.testBit d.desc i||(match d.kd with
 | .li (.blk m _ _)=> !Nat.beq m n
 | .li (.win w _ _)=>(getWin w win).isSome
 | .any=>false
 | .on _=>false
 |_=>true)
def ko(i n:Nat)(ns:List Nat)(win:List (Nat×List XV))(ds:List DH):Bool:=ds.all λd=>Nat.testBit d.desc i||(match d.kd with
 | .li (.blk m _ _)=> !Nat.beq m n
 | .li (.win w _ _)=>(getWin w win).isSome
 | .any=>false
 | .on m=>ns.any (Nat.beq m)
 |_=>true)
def RK.dkOf:RK->DK
 | .look _ (.map n) _ _=>.on n
 |_=>.any
def Kq(d:Nat)(li:LI)(ds:List DH):List DH:=match li with
 | .no=>ds
 |li=>⟨d,.li li⟩::ds
def jw(j:Nat)(mem:List MI)(win:List (Nat×List XV))(ds:List DH):Bool:=ds.all λd=>Nat.testBit d.desc j||(match d.kd with
 | .li (.blk n off vs)=>match getBlk n mem with
   |some (cs,_)=>(match Ei cs off vs.length with
    |some ws=>fX vs ws&&uF vs
    |none=>false)
   |none=>false
 | .li (.win i k vs)=>match getWin i win with
   |some cs=>(match Ei cs k vs.length with
    |some ws=>fX vs ws&&uF vs
    |none=>false)
   |none=>false
 | .any=>false
 | .on _=>false
 |_=>true)
def kX(j:Nat)(ds:List DH):List DH:=ds.filter λd=> !Nat.testBit d.desc j
def oh(c:Cnt)(d:DH):Bool:=match d.kd with
 | .li (.blk n _ vs)=>Nat.blt n c.n&&scL c vs
 | .li (.win i _ vs)=>Nat.blt i c.r&&scL c vs
 | .li .no=>true
 | .any=>true
 | .on n=>Nat.blt n c.n
 | .last=>true
 | .chg n=>Nat.blt n c.n
def Hm(P:Program)(nt:Nat)(self:pw)(ops:Array Oper)(j:Nat)(o:Oper)(mask k:Nat)(ds:List DH)(K:Stk)(S:Sym)(t:Ct):Bool:=
 dM ds S.mem&&(ds.all (oh S.c)&&(match uA nt S ops o with
  | .yes true=>bif fM j ds then B8 P nt o S t λS' t'=>jw j S'.mem S'.win ds&&self (.take ops ops.toList 0 (mask|||2^j) k (kX j ds)) K S' t'
    else false
  |_=>false))
def m3:Op->Bool
 | .call ⟨.value _,_,_⟩| .call ⟨.builtin .append,_,_⟩| .call ⟨.builtin .copy,_,_⟩| .call ⟨.builtin .delete,_,_⟩| .call ⟨.builtin .clear,_,_⟩| .buildSlice _ _ _| .mapUpdate _ _ _ _| .insert _ _ _ _| .makeSlice _ _ _| .range _ _| .next _ _| .entry _=>true
 |_=>false
def m5:Op->Bool
 | .alloc _| .box _ _| .makeMap _ _| .store _ _ _=>true
 |_=>false
def ol(P:Program)(nt:Nat)(ops:Array Oper)(o:Oper)(i:Nat)(ds:List DH)(S:Sym)(t:Ct)(go:List DH->Sym->Ct->Bool):Bool:=match t with
 | .new t'=>match yq P S o.op with
   |some x=>S.sc&&(ds.all (oh S.c)&&(jF i S.c.n S.win ds&&gj nt o x.1 {S with mem:=x.2::S.mem,c:=S.c.n1} λS'=>go (⟨descOf i ops.toList 0 0,.chg S.c.n⟩::ds) S' t'))
   |none=>false
 | .newL ns k t'=>match yq P S o.op,eg k S.mem with
   |some x,some _=>S.sc&&(ds.all (oh S.c)&&(ko i S.c.n ns S.win ds&&gj nt o x.1 {S with mem:=x.2::S.mem,c:=S.c.n1} λS'=>go (⟨descOf i ops.toList 0 0,.chg S.c.n⟩::ds) S' t'))
   |_,_=>false
 |_=>false
def KI(P:Program)(nt:Nat)(ops:Array Oper)(o:Oper)(i:Nat)(ds:List DH)(S:Sym)(t:Ct)(go:List DH->Sym->Ct->Bool):Bool:=match t with
 | .eff key k nv nm d t'=>match y6 S.f o.op,eg k S.mem with
   |some key',some rest=>ds.all (λe=>Nat.testBit e.desc i)&&(ds.all (oh S.c)&&(EK.same key' key&&(S.sc&&gj nt o nv {S with mem:=nm++rest,c:=d} λS'=>go (⟨descOf i ops.toList 0 0,.last⟩::ds) S' t')))
   |_,_=>false
 |_=>false
def z6(P:Program)(nt:Nat)(ops:Array Oper)(o:Oper)(i:Nat)(ds:List DH)(S:Sym)(t:Ct)(go:List DH->Sym->Ct->Bool):Bool:=match o.op with
 | .store ty a x=>match i7 P {S with mem:=qv i ds S.mem} (.store ty a x),i7 P S (.store ty a x),opd S.f a with
   |some _,some S',some (.ptr n _)=>jF i n S.win ds&&gj nt o (.lit undef) S' λS'=>go (⟨descOf i ops.toList 0 0,.chg n⟩::ds) S' t
   |_,none,_=>KI P nt ops o i ds S t go
   |_,_,_=>false
 |_=>ol P nt ops o i ds S t go
def p9(P:Program)(nt:Nat)(self:pw)(ops:Array Oper)(l:List Oper)(i mask k:Nat)(ds:List DH)(K:Stk)(S:Sym)(t:Ct):Bool:=match l with
 |[]=>match dE mask ops.toList 0 with
  |[]=>Nat.beq mask (2^ops.size-1)&&self (.pop .normal) K S t
  |[(j,o)]=>match k with
   |0=>false
   |k'+1=>Hm P nt self ops j o mask k' ds K S t
  |_=>false
 |o::r=>bif Nat.testBit mask i then self (.take ops r (i+1) mask k ds) K S t
  else bif Nat.beq (Nat.land (depsOf o) mask) (depsOf o)then(match uA nt S ops o with
   | .no=>false
   | .fork e=>kr e (λS' t'=>self (.take ops l i mask k ds) K S' t') S t
   | .yes false=>gj nt o (.lit undef) S λS'=>self (.take ops r (i+1) (mask|||2^i) k ds) K S' t
   | .yes true=>dM ds S.mem&&(match qd P {S.toSy with mem:=qv i ds S.mem} o.op with
    | .ok v vc li=>wN (λt'=>gj nt o v S λS'=>self (.take ops r (i+1) (mask|||2^i) k (Kq (descOf i ops.toList 0 0) li ds)) K S' t') vc t
    | .fork e=>kr e (λS' t'=>self (.take ops l i mask k ds) K S' t') S t
    | .no=>match rowOf S o t with
     |some (key',key,km,nv,d,t')=>match eg km S.mem with
      |some _=>RK.same key' key&&(S.sc&&((DH.mk 0 key.dkOf::ds).all (oh S.c)&&(fM i ds&&gj nt o nv {S with c:=d} λS'=>self (.take ops r (i+1) (mask|||2^i) k (bif key.noFacts P then ds else⟨descOf i ops.toList 0 0,key.dkOf⟩::ds)) K S' t')))
      |none=>false
     |none=>bif m5 o.op then z6 P nt ops o i ds S t λds' S' t'=>self (.take ops r (i+1) (mask|||2^i) k ds') K S' t'
      else m3 o.op&&self (.take ops r (i+1) mask k ds) K S t))
  else self (.take ops r (i+1) mask k ds) K S t
def pU(self:pw)(c:Code)(K:Stk)(S:Sym)(t:Ct):Bool:=match c with
 | .skip=>self (.pop .normal) K S t
 | .label _=>self (.pop .normal) K S t
 | .ret=>self (.pop .ret) K S t
 | .exit id=>self (.pop (.exit id)) K S t
 | .seq a b=>self (.run a) ((0,.seq a b)::K) S t
 | .block id a=>self (.run a) ((0,.block id a)::K) S t
 | .scope a=>self (.run a) ((0,.scope a)::K) S t
 | .loop a=>self (.run a) ((0,.loop a)::K) S t
 | .cond x a b=>match opd S.f x with
   |some (.bool e)=>match e.dec S.asm with
    |some true=>self (.run a) ((0,.cond x a b)::K) S t
    |some false=>self (.run b) ((1,.cond x a b)::K) S t
    |none=>kr e (λS' t'=>self (.run (.cond x a b)) K S' t') S t
   |_=>false
 | .region _ ops false=>self (.ops ops ops.toList) K S t
 | .region _ ops true=>eJ ops ops.toList 0&&self (.take ops ops.toList 0 0 ops.size []) K S t
 |_=>false
def Ac(P:Program)(S:Sym):List ResultVar->Option (List XV)
 |[]=>some []
 | .tmp t::l=>match S.f.get t,Ac P S l with
   |some v,some r=>some (v::r)
   |_,_=>none
 | .cell a t::l=>match BP P S.toSy t (.tmp a),Ac P S l with
   | .ok v [] _,some r=>some (v::r)
   |_,_=>none
def Bj:List XV->XV
 |[v]=>v
 |l=>.tup l
def yZ:List Nat->List MI->Option (List MI)
 |[],mem=>some mem
 |n::l,mem=>match rH (.obj n (.deferred true)) mem with
  |some r=>yZ l (.obj n (.deferred false)::r)
  |none=>none
def Fq:SExit->SExit->Bool
 | .normal,.normal=>true
 | .ret,.ret=>true
 | .exit a,.exit b=>Nat.beq a b
 |_,_=>false
theorem Dy{a b:SExit}(h:Fq a b=true):a=b:=by
 cases a<;>cases b<;>first|rfl|(cases h;done)|exact congrArg SExit.exit (aj h)
def xG:SExit->Bool
 | .exit _=>false
 |_=>true
def KL(P:Program)(fn:Option Func)(e:SExit)(S:Sym)(t:Ct):Bool:=match t with
 | .ret v mem=>match fn with
   |some fn=>xG e&&(match yZ S.mks S.mem with
    |some m=>match Ac P {S with mem:=m} fn.results.toList with
     |some vs=>v.same (Bj vs)&&(eg mem m).isSome
     |none=>false
    |none=>false)
   |none=>false
 | .fin x fr mem=>Fq x e&&(frOk S.f fr&&(eg mem S.mem).isSome)
 |_=>false
def vL(P:Program)(fn:Option Func)(self:pw)(e:SExit)(K:Stk)(S:Sym)(t:Ct):Bool:=match K with
 |[]=>KL P fn e S t
 |(d,.seq a b)::K'=>match e with
  | .normal=>bif Nat.beq d 0 then self (.run b) ((1,.seq a b)::K') S t else self (.pop e) K' S t
  |_=>self (.pop e) K' S t
 |(_,.block id _)::K'=>match e with
  | .exit k=>bif Nat.beq k id then self (.pop .normal) K' S t else self (.pop e) K' S t
  |_=>self (.pop e) K' S t
 |(_,.loop c)::K'=>match e with
  | .normal=>self (.run (.loop c)) K' S t
  |_=>self (.pop e) K' S t
 |(_,.cond _ _ _)::K'=>self (.pop e) K' S t
 |(_,.scope _)::K'=>self (.pop e) K' S t
 |_=>false
def zy(c:Cnt):Mode->Bool
 | .take _ _ _ _ _ ds=>ds.all (oh c)
 |_=>true
def tH(P:Program)(fn:Option Func)(nt:Nat)(self:pw)(m:Mode)(K:Stk)(S:Sym)(t:Ct):Bool:=match m with
 | .run c=>(match t with
   | .stop p fr mem=>bif kq (K.map (·.1)) p then frOk S.f fr&&(eg mem S.mem).isSome else pU self c K S (.stop p fr mem)
   |t=>pU self c K S t)
 | .pop e=>vL P fn self e K S t
 | .ops ops l=>uJ P nt self ops l K S t
 | .take ops l i mask k ds=>p9 P nt self ops l i mask k ds K S t
def qy:Ct->Option (List Nat)
 | .swap _ _ _ t=>qy t
 | .win _ _ _ t=>qy t
 | .stop p _ _=>some p
 |_=>none
def Cn(P:Program)(nt:Nat)(S:Sym)(mem:List MI)(ops:Array Oper)(o:Oper):Bool:=match uA nt S ops o with
 | .yes false=>true
 | .yes true=>(match qd P {S.toSy with mem:=mem} o.op with
   | .ok _ [] _=>true
   | .no=>(i7 P {S with mem:=mem} o.op).isSome
   |_=>false)
 |_=>false
def later(P:Program)(nt:Nat)(m:Mode)(K:Stk)(S:Sym)(t:Ct):Bool:=match m with
 | .run c=>(match c with
   | .loop _| .rangeFunc .. =>false
   | .cond x _ _=>(match opd S.f x with
     |some (.bool e)=>(e.dec S.asm).isSome
     |_=>true)
   |_=>match qy t with
    |some p=> !kq (K.map (·.1)) p
    |none=>true)
 | .pop _=> !K.isEmpty
 | .ops _ []=>true
 | .ops ops (o::_)=>Cn P nt S S.mem ops o
 | .take ops [] _ mask _ _=>(dE mask ops.toList 0).isEmpty
 | .take ops (o::_) i mask _ ds=>Nat.testBit mask i||(!Nat.beq (Nat.land (depsOf o) mask) (depsOf o)||(Cn P nt S (qv i ds S.mem) ops o||m3 o.op))
def HX(P:Program)(fn:Option Func)(nt:Nat)(self:pw)(m:Mode)(K:Stk)(S:Sym)(t:Ct):Bool:=match t with
 | .swap k nm d t'=>bif later P nt m K S t' then tH P fn nt self m K S (.swap k nm d t')else(match eg k S.mem with
   |some rest=>S.sc&&(zy S.c m&&self m K {S with mem:=nm++rest,c:=d} t')
   |none=>false)
 | .win i cs d t'=>S.sc&&(zy S.c m&&self m K {S with win:=(i,cs)::S.win,c:=d} t')
 | .no=>true
 | .fork b t1 t2=>bif tH P fn nt self m K S (.fork b t1 t2)then true else(self m K {S with asm:=(b,true)::S.asm} t1&&self m K {S with asm:=(b,false)::S.asm} t2)
 |t=>tH P fn nt self m K S t
def chk(P:Program)(fn:Option Func)(nt n:Nat):pw:=Nat.rec (λ_ _ _ _=>false) (λ_ ih=>HX P fn nt ih) n
def KOk(C:Cx)(K:Stk):Mode->Prop
 | .run c=>kat C.c0 (K.map (·.1))=some (K,c)
 |_=>∃c,kat C.c0 (K.map (·.1))=some (K,c)
inductive HR (ρ:Va):List DH->List Held->Prop
 |nil:HR ρ [] []
 |no {d:Nat} {li:LI} {ds:List DH} {hs:List Held}:li.facts ρ=[]->HR ρ ds hs->HR ρ (⟨d,.li li⟩::ds) hs
 |li {d:Nat} {li:LI} {ds:List DH} {hs:List Held}:HR ρ ds hs->HR ρ (⟨d,.li li⟩::ds) (⟨d,li.facts ρ,none⟩::hs)
 |any0 {d:Nat} {ds:List DH} {hs:List Held}:HR ρ ds hs->HR ρ (⟨d,.any⟩::ds) hs
 |any {d:Nat} {fs:List Fact} {ds:List DH} {hs:List Held}:HR ρ ds hs->HR ρ (⟨d,.any⟩::ds) (⟨d,fs,none⟩::hs)
 |on0 {d n:Nat} {ds:List DH} {hs:List Held}:HR ρ ds hs->HR ρ (⟨d,.on n⟩::ds) hs
 |on {d n:Nat} {fs:List Fact} {ds:List DH} {hs:List Held}:(∀f∈fs,f.blk=ρ.n n)->HR ρ ds hs->HR ρ (⟨d,.on n⟩::ds) (⟨d,fs,none⟩::hs)
 |chg {d n:Nat} {ob:AObj} {ds:List DH} {hs:List Held}:HR ρ ds hs->HR ρ (⟨d,.chg n⟩::ds) (⟨d,[],some (ρ.n n,ob)⟩::hs)
 |last {d b:Nat} {ob:AObj} {ds:List DH} {hs:List Held}:HR ρ ds hs->HR ρ (⟨d,.last⟩::ds) (⟨d,[],some (b,ob)⟩::hs)
def KR(P:Program)(Γ:Glob)(ops:Array Oper)(k:Nat)(x:Nat×List Held×Fr×Hp)(Φ:Out->Prop):Prop:=Ev.Ends (λn=>match dE x.1 ops.toList 0 with
 |[]=>bif Nat.beq x.1 (2^ops.size-1)then some [⟨.normal,x.2.2.1,x.2.2.2,.lit undef⟩]else none
 |rs=>ew (iB P Γ (f8 P Γ theMem n) ops (drawn P Γ (f8 P Γ theMem n) ops k) x.1 x.2.1 x.2.2.1 x.2.2.2) rs) Φ
def mP(P:Program)(Γ:Glob)(ops:Array Oper)(l:List Oper)(i mask k:Nat)(hs:List Held)(fr:Fr)(h:Hp)(Φ:Out->Prop):Prop:=∃x,ct P Γ ops l i mask hs fr h=some x/\KR P Γ ops k x Φ
def xQ(C:Cx)(ρ:Va)(K:Stk)(tm:T SV)(h:Hp):Mode->Prop
 | .run c=>Runs C.P C.Γ (.code c C.ro ⟨tm,C.nt,C.ms⟩ h) (aft C.P C.Γ C.ro C.Φ K)
 | .pop e=>∀v,aft C.P C.Γ C.ro C.Φ K ⟨e,⟨tm,C.nt,C.ms⟩,h,v⟩
 | .ops ops l=>cr C.P C.Γ ops l ⟨tm,C.nt,C.ms⟩ h (aft C.P C.Γ C.ro C.Φ K)
 | .take ops l i mask k ds=>∀hs,HR ρ ds hs->mP C.P C.Γ ops l i mask k hs ⟨tm,C.nt,C.ms⟩ h (aft C.P C.Γ C.ro C.Φ K)
abbrev OkC(C:Cx)(ρ:Va)(Z:Hp)(S:Sym)(tm:T SV)(h:Hp):Prop:=Ok C.Γ ρ Z C.l S C.ms ⟨tm,C.nt,C.ms⟩ h
def Snd(C:Cx)(self:pw):Prop:=∀m K S t,self m K S t=true->∀ρ Z tm h,den C t S.c ρ Z->OkC C ρ Z S tm h->KOk C K m->xQ C ρ K tm h m
theorem KOk.weak{C:Cx}{K:Stk}{m:Mode}(h:KOk C K m):∃c,kat C.c0 (K.map (·.1))=some (K,c):=by
 cases m with
 |run c=>exact⟨c,h⟩
 |pop e=>exact h
 |ops o l=>exact h
 |take=>exact h
theorem KOk.down{C:Cx}{K:Stk}{c c':Code}{d:Nat}(h:KOk C K (.run c))(hc:child c d=some c'):KOk C ((d,c)::K) (.run c'):=by
 show kat C.c0 (d::K.map (·.1))=_;have h:kat C.c0 (K.map (·.1))=some (K,c):=h;simp only[kat,h,hc,af]
theorem KOk.up{C:Cx}{K:Stk}{c:Code}{d:Nat}{x:Code}(h:kat C.c0 (((d,c)::K).map (·.1))=some ((d,c)::K,x)):kat C.c0 (K.map (·.1))=some (K,c)/\child c d=some x:=by
 simp only[ax,kat]at h;split at h
 .rename_i K' c' hk;rw[aa]at h;obtain⟨y,hy,h⟩:=h;simp only[ap,List.cons.injEq,true_and]at h;obtain⟨⟨rfl,rfl⟩,rfl⟩:=h;exact⟨hk,hy⟩
 .cases h
section
variable {C:Cx}{ρ:Va}{Z:Hp}{S S':Sym}{tm:T SV}{h:Hp}{t:Ct}{G:Prop}
theorem mo{e:X}{go:Sym->Ct->Bool}(hq:kr e go S t=true)(hd:den C t S.c ρ Z)(ho:OkC C ρ Z S tm h)
 (hg:∀b t',go {S with asm:=(e.base,b)::S.asm} t'=true->den C t' S.c ρ Z->OkC C ρ Z {S with asm:=(e.base,b)::S.asm} tm h->G):G:=by
 unfold kr at hq;split at hq
 .rename_i b t1 t2;simp only[a8]at hq;have hb:=X.same_eq _ _ hq.1;subst hb;obtain⟨d1,d2⟩:=hd
  revert d1 d2 hq hg
  generalize e.base=b;intro hg hq d1 d2;have ok:∀v,(b.den ρ).b=v->OkC C ρ Z {S with asm:=(b,v)::S.asm} tm h:=λv hv=>⟨ho.f,ho.st,λx hx=>by
   rcases aD.1 hx with rfl|hx
   .exact hv
   .exact ho.asm x hx,ho.win,ho.mks⟩
  by_cases hp:b.prop ρ
  .exact hg true t1 hq.2.1 (d1 hp) (ok _ ((b.prop_iff ρ).2 hp))
  .exact hg false t2 hq.2.2 (d2 hp) (ok _ ((b.prop_false ρ).2 hp))
 .cases hq
theorem oS{c:Cnt}{go:Ct->Bool}:∀{vc:List X} {t:Ct},wN go vc t=true->den C t c ρ Z->∃t',go t'=true/\den C t' c ρ Z/\∀x∈vc,x.prop ρ
 |[],t,hq,hd=>⟨t,hq,hd,λx hx=>by cases hx⟩
 |b::l,.vc b' t',hq,hd=>by
  simp only[wN,a8]at hq;obtain rfl:=X.same_eq _ _ hq.1;obtain⟨t'',h1,h2,h3⟩:=oS hq.2 hd.2;refine⟨t'',h1,h2,λx hx=>?_⟩;rcases aD.1 hx with rfl|hx
  .exact hd.1
  .exact h3 x hx
 |_::_,.fork _ _ _,hq,_=>by cases hq
 |_::_,.new _,hq,_=>by cases hq
 |_::_,.call _ _ _ _ _ _ _,hq,_=>by cases hq
 |_::_,.round _ _ _ _ _ _ _,hq,_=>by cases hq
 |_::_,.row _ _ _ _ _,hq,_=>by cases hq
 |_::_,.eff _ _ _ _ _ _,hq,_=>by cases hq
 |_::_,.eff2 _ _ _ _ _ _ _ _ _ _,hq,_=>by cases hq
 |_::_,.swap _ _ _ _,hq,_=>by cases hq
 |_::_,.win _ _ _ _,hq,_=>by cases hq
 |_::_,.ret _ _,hq,_=>by cases hq
 |_::_,.fin _ _ _,hq,_=>by cases hq
 |_::_,.stop _ _ _,hq,_=>by cases hq
theorem CZ{o:Oper}{v:XV}(hq:LV C.nt o v S=some S')(ho:OkC C ρ Z S tm h):∃tm',Fr.put ⟨tm,C.nt,C.ms⟩ o.dst (v.sv ρ)=some ⟨tm',C.nt,C.ms⟩/\OkC C ρ Z S' tm' h/\S'.c=S.c:=by
 unfold LV at hq;split at hq
 .rename_i hd;obtain rfl:=ab hq;exact⟨tm,by rw[hd];rfl,ho,rfl⟩
 .rename_i d hd;cases hb:Nat.blt d C.nt with
  |false=>rw[hb]at hq;cases hq
  |true=>
   rw[hb,bf]at hq;obtain rfl:=ab hq;refine⟨tm.set d (v.sv ρ),by rw[hd];simp only[Fr.put,hb,bf],⟨λk w hk=>?_,ho.st,ho.asm,ho.win,ho.mks⟩,rfl⟩;have hk:(S.f.set d v).get k=some w:=hk;rw[T.get_set]at hk;rw[bU];by_cases e:k=d
   .rw[bi e]at hk⊢;rw[ab hk]
   .rw[bh e]at hk⊢;exact ho.f k w hk
theorem cB{o:Oper}{v:XV}{go:Sym->Bool}(hq:gj C.nt o v S go=true)(ho:OkC C ρ Z S tm h):∃tm' S',Fr.put ⟨tm,C.nt,C.ms⟩ o.dst (v.sv ρ)=some ⟨tm',C.nt,C.ms⟩/\go S'=true/\OkC C ρ Z S' tm' h/\S'.c=S.c:=by
 unfold gj at hq;split at hq
 .rename_i S' hS;obtain⟨tm',h1,h2,h3⟩:=CZ hS ho;exact⟨tm',S',h1,hq,h2,h3⟩
 .cases hq
theorem iX{ops:Array Oper}{o:Oper}{b:Bool}(hq:uA C.nt S ops o=.yes b)(ho:OkC C ρ Z S tm h):cL ops ⟨tm,C.nt,C.ms⟩ o=some b:=by
 unfold uA at hq;unfold cL;split at hq
 .rename_i hg;simp only[Want.yes.injEq]at hq;subst hq;rw[hg]
 .rename_i j want hg;rw[hg];split at hq
  .rename_i hd;simp only[Want.yes.injEq]at hq;subst hq;simp only[hd]
  .rename_i x hd;simp only[hd];show(bif Nat.blt x C.nt then _ else _)=_;cases hb:Nat.blt x C.nt with
   |false=>
    rw[hb,bg]at hq;simp only[Want.yes.injEq]at hq;subst hq;rfl
   |true=>
    rw[hb,bf]at hq;rw[bf];split at hq
    .rename_i e he;split at hq
     .rename_i c hc;simp only[Want.yes.injEq]at hq;subst hq;have:=ho.f x _ he;simp only[XV.sv,X.dec_ok ho.asm e hc]at this;simp only[this]
     .cases hq
    .rename_i c hc;simp only[Want.yes.injEq]at hq;subst hq;have:=ho.f x _ hc;simp only[XV.sv]at this;simp only[this]
    .rename_i v hne he;simp only[Want.yes.injEq]at hq;subst hq;have:=ho.f x _ he;simp only[XV.sv]at this;simp only[this]
    .cases hq
theorem mD{f:T XV}{fr:Fr}(hf:FM ρ f fr):∀{l:List (Nat×XV)},frOk f l=true->∀x∈l,fr.ev (.tmp x.1)=x.2.sv ρ
 |[],_,x,hx=>by cases hx
 |(i,v)::l,hq,x,hx=>by
  simp only[frOk,a8]at hq;rcases aD.1 hx with rfl|hx
  .have h1:=hq.1;split at h1
   .rename_i w hw;rw[hf i w hw,XV.same_eq ρ _ _ h1]
   .cases h1
  .exact mD hf hq.2 x hx
theorem fO{k r:List MI}(hk:eg k S.mem=some r)(ho:OkC C ρ Z S tm h):St Z (cR ρ k++(cR ρ r++C.l)) h:=by
 rw[<-aC];exact ho.st.perm ((lx ρ hk).append_right _)
theorem qR{k:List MI}{mem:List MI}{l:List Asrt}(hk:(eg k mem).isSome=true)(hs:St Z (mem.map (MI.den ρ)++l) h):St Z (cR ρ k++l) h:=by
 obtain⟨r,hr⟩:=Option.isSome_iff_exists.1 hk;have:=hs.perm ((lx ρ hr).append_right l);exact(this.perm (l':=cR ρ r++(cR ρ k++l)) (by
  rw[<-aC];exact List.perm_append_comm.append_right l)).drop
theorem Ok.next{k r nm:List MI}{d:Cnt}{e:Vals}{Z':Hp}{h':Hp}(hs:S.sc=true)(hk:eg k S.mem=some r)(ho:OkC C ρ Z S tm h)(hz:Sub Z Z')(hst:St Z' (cR (ρ.ext S.c e) nm++(cR ρ r++C.l)) h'):OkC C (ρ.ext S.c e) Z' {S with mem:=nm++r,c:=d} tm h':=by
 have ha:=cw S.c ρ e;refine Ok.ext ho hs ha hz ?_;have hr:r.map (MI.den (ρ.ext S.c e))=cR ρ r:=iH ha (th hk (by
  simp only[Sym.sc,a8]at hs;exact hs.2.1))
 rw[aH,hr,aC];exact hst
theorem m7{op:Op}{f:FuncId}{args:List XV}{fr:Fr}(hf:FM ρ S.f fr)(hq:pF S.f op=some (f,args)):cz fr.ev op=some (.fn f (svL ρ args))/\∀{P:Program} {Γ:Glob} {h:Hp},quiet P Γ h fr.ev op=none:=by
 unfold pF at hq;split at hq
 .rename_i g args' tys;refine⟨?_,rfl⟩;split at hq
  .rename_i id a b xs hg hxs;obtain⟨rfl,rfl⟩:=Prod.mk.inj (ab hq);simp only[cz,hf.opd hg,XV.sv,mQ hf hxs,pE]
  .rename_i id a b xs hg hxs;obtain⟨rfl,rfl⟩:=Prod.mk.inj (ab hq);simp only[cz,hf.opd hg,XV.sv,mQ hf hxs,pE,lN]
  .cases hq
 .cases hq
theorem lq{op:Op}{n:Nat}{args:List XV}{fr:Fr}(hf:FM ρ S.f fr)(hq:zT S.f op=some (n,args)):cz fr.ev op=some (.round (ρ.n n) (svL ρ args))/\∀{P:Program} {Γ:Glob} {h:Hp},quiet P Γ h fr.ev op=none:=by
 unfold zT at hq;split at hq
 .rename_i g args' tys;refine⟨?_,rfl⟩;split at hq
  .rename_i m xs hg hxs;obtain⟨rfl,rfl⟩:=Prod.mk.inj (ab hq);simp only[cz,hf.opd hg,XV.sv,mQ hf hxs]
  .cases hq
 .cases hq
theorem AP{P:Program}{f:FuncId}{args:List SV}(hq:oH P f=true):gw P h f args=none:=by
 unfold oH at hq;unfold gw;split
 .rename_i fn t b hf;rw[hf]at hq;have hq:fn.body.isSome=true:=hq;obtain⟨c,hc⟩:=Option.isSome_iff_exists.1 hq;simp only[hc,Option.isNone_some,Bool.false_and,bg]
 .rfl
theorem rt(z:List SV):∀n,di z n=(List.replicate n z).flatten
 |0=>rfl
 |n+1=>by rw[di,rt z n,List.replicate_succ,aZ]
theorem wF(z:List XV):∀n,svL ρ (List.replicate n z).flatten=(List.replicate n (svL ρ z)).flatten
 |0=>rfl
 |n+1=>by rw[List.replicate_succ,aZ,pE,wF z n,List.replicate_succ,aZ]
theorem nP{op:Op}{v:XV}{m:MI}(hq:yq C.P S op=some (v,m))(hs:S.sc=true)(ho:OkC C ρ Z S tm h):
 ∃ob,effect C.P C.Γ h (Fr.ev ⟨tm,C.nt,C.ms⟩) op=some [(v.sv (ρ.ext S.c {n:=[h.next]}),⟨h.objs.set h.next ob,h.next+1⟩)]/\m.den (ρ.ext S.c {n:=[h.next]})=own h.next ob/\quiet C.P C.Γ h (Fr.ev ⟨tm,C.nt,C.ms⟩) op=none/\cz (Fr.ev ⟨tm,C.nt,C.ms⟩) op=none:=by
 have ha:=cw S.c ρ {n:=[h.next]};have hn:(ρ.ext S.c {n:=[h.next]}).n S.c.n=h.next:=by
  show fN _ _ _ _ _=_;unfold fN;rw[show Nat.blt S.c.n S.c.n=false from by
   cases e:Nat.blt S.c.n S.c.n with
   |false=>rfl
   |true=>exact absurd (ca e) (Nat.lt_irrefl _)]
  rw[bg,Nat.sub_self];rfl
 have hf:=ho.f.agree ha (by simp only[Sym.sc,a8]at hs;exact hs.1);unfold yq at hq;split at hq
 .rw[aa]at hq;obtain⟨z,hz,hq⟩:=hq;obtain⟨rfl,rfl⟩:=Prod.mk.inj hq;exact⟨_,by simp only[effect,hz,af,XV.sv,hn];rfl,by simp only[MI.den,hn,XV.cells_sv,XV.sv],rfl,rfl⟩
 .rw[aa]at hq;obtain⟨w,hw,hq⟩:=hq;obtain⟨rfl,rfl⟩:=Prod.mk.inj hq;exact⟨_,by simp only[effect,hf.opd hw,XV.sv,hn];rfl,by simp only[MI.den,hn,XV.cells_sv],rfl,rfl⟩
 .rename_i ty len parts;split at hq
  .rename_i e ps ht hps;split at hq
   .rename_i size z hsz hz;cases hb:Nat.ble (len*size) 16777216&&Nat.beq (XV.cells (.lit z)).length size with
    |false=>rw[hb]at hq;cases hq
    |true=>
     rw[hb,bf,aa]at hq;obtain⟨r,hr,hq⟩:=hq;obtain⟨rfl,rfl⟩:=Prod.mk.inj hq;have hc:svL (ρ.ext S.c {n:=[h.next]}) (XV.cells (.lit z))=SV.cells (.lit z):=XV.cells_sv _ (.lit z);have hl:(SV.cells (.lit z)).length=(XV.cells (.lit z)).length:=by rw[<-hc,gS]
     have h1:=mV (ρ:=ρ.ext S.c {n:=[h.next]}) hr;have h2:svL (ρ.ext S.c {n:=[h.next]}) (bif Nat.beq (len*size) 0 then[]else(List.replicate len (XV.cells (.lit z))).flatten)=(bif Nat.beq (len*size) 0 then[]else di (SV.cells (.lit z)) len):=by
      cases Nat.beq (len*size) 0 with
      |true=>rfl
      |false=>rw[bg,bg,wF,hc,rt]
     rw[h2]at h1;refine⟨.cells (svL (ρ.ext S.c {n:=[h.next]}) r) e,?_,by simp only[MI.den,hn],rfl,rfl⟩;have h3:=pD (S:=S.toSy) hf hps;simp only[effect,ge,ht,hsz,hz,hl,hb,bf,h3,h1,XV.sv,hn];rfl
   .cases hq
  .cases hq
 .split at hq
  .rename_i ht;obtain⟨rfl,rfl⟩:=Prod.mk.inj (ab hq);exact⟨_,by simp only[effect,ht,XV.sv,hn];rfl,by simp only[MI.den,hn],rfl,rfl⟩
  .cases hq
 .split at hq
  .rename_i ht hx;obtain⟨rfl,rfl⟩:=Prod.mk.inj (ab hq);have hx:=hf.opd hx;simp only[XV.sv]at hx;exact⟨_,by simp only[effect,ht,hx,XV.sv,hn];rfl,by simp only[MI.den,hn],rfl,rfl⟩
  .cases hq
 .cases hq
theorem Aa{m:MI}{ob:AObj}(hs:S.sc=true)(ho:OkC C ρ Z S tm h)(e2:m.den (ρ.ext S.c {n:=[h.next]})=own h.next ob):OkC C (ρ.ext S.c {n:=[h.next]}) Z {S with mem:=m::S.mem,c:=S.c.n1} tm ⟨h.objs.set h.next ob,h.next+1⟩:=by
 refine Ok.ext ho hs (cw _ _ _) (Sub.refl _) ?_;have hsc:=hs;simp only[Sym.sc,a8]at hsc;rw[ax,e2,iH (cw S.c ρ _) hsc.2.1,List.cons_append];exact ho.st.new
theorem pf{op:Op}(hq:i7 C.P S op=some S')(ho:OkC C ρ Z S tm h):
 ∃h',effect C.P C.Γ h (Fr.ev ⟨tm,C.nt,C.ms⟩) op=some [(.lit undef,h')]/\h.next<=h'.next/\OkC C ρ Z S' tm h'/\S'.c=S.c/\quiet C.P C.Γ h (Fr.ev ⟨tm,C.nt,C.ms⟩) op=none/\cz (Fr.ev ⟨tm,C.nt,C.ms⟩) op=none:=by
 unfold i7 at hq;split at hq
 .rename_i ty a x;split at hq
  .rename_i n off v hn hv;split at hq
   .rename_i cs e m hg hsz;cases hb:Nat.beq v.cells.length m with
    |false=>rw[hb]at hq;cases hq
    |true=>
     rw[hb,bf,aa]at hq;obtain⟨ds,hds,rfl⟩:=hq;obtain⟨u,w,e1,e2⟩:=iv (ds:=ds) hg;have hlen:(v.sv ρ).cells.length=m:=by rw[<-XV.cells_sv,gS];exact eq_of_beq hb
     have hsp:=qn (ρ:=ρ) hds;rw[XV.cells_sv]at hsp;refine⟨⟨h.objs.set (ρ.n n) (.cells (svL ρ ds) e),h.next⟩,?_,av _,⟨ho.f,?_,ho.asm,ho.win,ho.mks⟩,rfl,rfl,rfl⟩
     .refine oG (b:=ρ.n n) (off:=off) hsz (ho.f.opd hn) (ho.f.opd hv) hlen (ho.blk hg).1 hsp
     .have hst:=ho.st;rw[e1]at hst;show St Z (List.map (MI.den ρ) (lk n ds S.mem)++C.l) _;rw[e2];rw[aH,ax,aC,List.cons_append]at hst⊢;exact hst.set
   .cases hq
  .cases hq
 .cases hq
end
section
variable {C:Cx}[Mute C.Γ]{self:pw}{ρ:Va}{Z:Hp}{S:Sym}{tm:T SV}{h:Hp}{t:Ct}{K:Stk}
theorem l8{P:Program}{Γ:Glob}{ops:Array Oper}{mask k:Nat}{held:List Held}{fr:Fr}{Φ:Out->Prop}(h1:mP P Γ ops ops.toList 0 mask k held fr h Φ):nY P Γ ops (k+1) mask held fr h Φ:=by
 obtain⟨x,h1,h2⟩:=h1;exact Ends.eq h2 λn=>by
  simp only[drawn,h1];cases dE x.1 ops.toList 0<;>rfl
def LoudP(C:Cx)(fr:Fr)(h:Hp)(o:Oper)(Q:SV->Hp->Prop):Prop:=Ev.Ends (λn=>lW C.P C.Γ (f8 C.P C.Γ theMem n) fr h o) λr=>Q r.1 r.2
theorem LoudP.mono{fr:Fr}{o:Oper}{Q R:SV->Hp->Prop}(hl:LoudP C fr h o Q)(hr:∀v h',Q v h'->R v h'):LoudP C fr h o R:=have _:=(inferInstance:Mute C.Γ);Ends.mono hl λx hx=>hr _ _ hx
theorem zg{α β:Type}{f:Nat->Option (List α)}{Φ:β->Prop}{g:α->β}(h:Ev.Ends f λa=>Φ (g a)):Ev.Ends (λn=>(f n).map λl=>l.map g) Φ:=by
 obtain⟨N,l,h1,h2⟩:=h;refine⟨N,l.map g,λn hn=>by show(f n).map _=_;rw[h1 n hn];rfl,λx hx=>?_⟩;obtain⟨a,ha,rfl⟩:=List.mem_map.1 hx;exact h2 a ha
theorem Ey{o:Oper}{fr:Fr}{f:FuncId}{args:List SV}{Q:SV->Hp->Prop}(hc:cz fr.ev o.op=some (.fn f args))(hcl:gw C.P h f args=none)(hr:Runs C.P C.Γ (.call f args h) λr=>Q r.v r.hp):LoudP C fr h o Q:=
 have _:=(inferInstance:Mute C.Γ);
 Ends.eq (zg (f:=λn=>f8 C.P C.Γ theMem n (.call f args h)) (g:=λx:Out=>(x.v,x.hp)) (Φ:=λr:SV×Hp=>Q r.1 r.2) hr) λn=>by simp only[lW,hc,hcl]
theorem Bc{o:Oper}{fr:Fr}{f:FuncId}{args:List SV}{x:SV×Hp}{Q:SV->Hp->Prop}(hc:cz fr.ev o.op=some (.fn f args))(hcl:gw C.P h f args=some x)(hr:Q x.1 x.2):LoudP C fr h o Q:=
 have _:=(inferInstance:Mute C.Γ);
 ⟨0,[x],λn _=>by simp only[lW,hc,hcl],λr hm=>by rw[List.mem_singleton.1 hm];exact hr⟩
theorem zX{o:Oper}{fr:Fr}{b:Nat}{args:List SV}{Q:SV->Hp->Prop}(hc:cz fr.ev o.op=some (.round b args))(hr:Runs C.P C.Γ (.round b args h) λr=>Q r.v r.hp):LoudP C fr h o Q:=
 have _:=(inferInstance:Mute C.Γ);
 Ends.eq (zg (f:=λn=>f8 C.P C.Γ theMem n (.round b args h)) (g:=λx:Out=>(x.v,x.hp)) (Φ:=λr:SV×Hp=>Q r.1 r.2) hr) λn=>by simp only[lW,hc]
theorem lS{o:Oper}{fr:Fr}{outs:List (SV×Hp)}{Q:SV->Hp->Prop}(hc:cz fr.ev o.op=none)(he:effect C.P C.Γ h fr.ev o.op=some outs)(hn:∀r∈outs,h.next<=r.2.next)(hr:∀r∈outs,Q r.1 r.2):LoudP C fr h o Q:=by
 have _:=(inferInstance:Mute C.Γ);have hall:outs.all (λr=>Nat.ble h.next r.2.next)=true:=aE.2 λr hr=>ai (hn r hr);exact⟨0,outs,λn _=>by simp only[lW,hc,he,hall,bf],hr⟩
theorem Fu{ops:Array Oper}{o:Oper}{l:List Oper}{fr:Fr}{Φ:Out->Prop}(hw:cL ops fr o=some true)(hq:quiet C.P C.Γ h fr.ev o.op=none)(hl:LoudP C fr h o λv h'=>∃fr',fr.put o.dst v=some fr'/\cr C.P C.Γ ops l fr' h' Φ):cr C.P C.Γ ops (o::l) fr h Φ:=by
 refine iT (Ends.bind (g:=λ_ (r:SV×Hp)=>(fr.put o.dst r.1).map λf=>[(f,r.2)]) hl (λr hm=>?_) λk xs hxs=>?_)
 .obtain⟨fr',h1,h2⟩:=hm;exact Ends.one (x:=(fr',r.2)) (λ_=>by rw[h1];rfl) h2
 .simp only[oper,hw,fh hq,hxs]
def Ga(C:Cx)(ρ:Va)(Z:Hp)(S:Sym)(tm:T SV)(o:Oper)(go:Sym->Ct->Bool)(v:SV)(h':Hp):Prop:=∃S' t' ρ' Z' tm',Fr.put ⟨tm,C.nt,C.ms⟩ o.dst v=some ⟨tm',C.nt,C.ms⟩/\go S' t'=true/\den C t' S'.c ρ' Z'/\OkC C ρ' Z' S' tm' h'/\Agree S.c ρ ρ'/\Sub Z Z'
section
variable {o:Oper}{go:Sym->Ct->Bool}
theorem Agree.refl(c:Cnt)(ρ:Va):Agree c ρ ρ:=⟨λ_ _=>rfl,λ_ _=>rfl,λ_ _=>rfl,λ_ _=>rfl,λ_ _=>rfl,λ_ _=>rfl⟩
theorem pl(hq:uT C.P C.nt o S t go=true)(hd:den C t S.c ρ Z)(ho:OkC C ρ Z S tm h):
 quiet C.P C.Γ h (Fr.ev ⟨tm,C.nt,C.ms⟩) o.op=none/\LoudP C ⟨tm,C.nt,C.ms⟩ h o (Ga C ρ Z S tm o go):=by
 unfold uT at hq;cases hS:i7 C.P S o.op with
 |some S'=>
  simp only[hS]at hq;obtain⟨h',h1,h2,h3,h4,h5,h6⟩:=pf hS ho;obtain⟨tm',S2,p1,p2,p3,p4⟩:=cB hq h3;refine⟨h5,lS h6 h1 (λr hr=>?_) λr hr=>?_⟩
  .rw[List.mem_singleton.1 hr];exact h2
  .rw[List.mem_singleton.1 hr];exact⟨S2,t,ρ,Z,tm',p1,p2,by rw[p4,h4];exact hd,p3,Agree.refl _ _,Sub.refl _⟩
 |none=>
  simp only[hS]at hq;cases t with
  |new t'=>
   cases hn:yq C.P S o.op with
   |none=>simp only[hn]at hq;cases hq
   |some x=>
    obtain⟨v,m⟩:=x;simp only[hn,a8]at hq;obtain⟨ob,e1,e2,e3,e4⟩:=nP hn hq.1 ho;obtain⟨tm',S2,p1,p2,p3,p4⟩:=cB hq.2 (Aa hq.1 ho e2);refine⟨e3,lS e4 e1 (λr hr=>?_) λr hr=>?_⟩
    .rw[List.mem_singleton.1 hr];exact Nat.le_succ _
    .rw[List.mem_singleton.1 hr];exact⟨S2,t',_,Z,tm',p1,p2,by rw[p4];exact hd h.next,p3,cw _ _ _,Sub.refl _⟩
  |_=>cases hq
theorem yD(hq:uD C.P C.nt o S t go=true)(hd:den C t S.c ρ Z)(ho:OkC C ρ Z S tm h):
 quiet C.P C.Γ h (Fr.ev ⟨tm,C.nt,C.ms⟩) o.op=none/\LoudP C ⟨tm,C.nt,C.ms⟩ h o (Ga C ρ Z S tm o go):=by
 cases t with
 |call f args k nv nm d t'=>
  simp only[uD]at hq;split at hq
  .rename_i x rest hc hk;simp only[a8]at hq;obtain⟨q1,q2,q3,q4,q5⟩:=hq;obtain⟨c1,c2⟩:=m7 ho.f hc;refine⟨c2,Ey c1 (AP (by rw[<-eq_of_beq q1];exact q3)) ?_⟩;rw[<-eq_of_beq q1,<-d6 ρ _ _ q2];refine(hd _ h (fO hk ho)).mono ?_;rintro r ⟨Z',e,hz,hv,hst,hd'⟩;obtain⟨tm',S2,p1,p2,p3,p4⟩:=cB q5 (Ok.next q4 hk ho hz hst);exact⟨S2,t',_,Z',tm',by rw[hv];exact p1,p2,by rw[p4];exact hd',p3,cw _ _ _,hz⟩
  .cases hq
 |round n args k nv nm d t'=>
  simp only[uD]at hq;split at hq
  .rename_i x rest hc hk;simp only[a8]at hq;obtain⟨q1,q2,q4,q5⟩:=hq;obtain⟨c1,c2⟩:=lq ho.f hc;refine⟨c2,zX c1 ?_⟩;rw[<-eq_of_beq q1,<-d6 ρ _ _ q2];refine(hd _ h (fO hk ho)).mono ?_;rintro r ⟨Z',e,hz,hv,hst,hd'⟩;obtain⟨tm',S2,p1,p2,p3,p4⟩:=cB q5 (Ok.next q4 hk ho hz hst);exact⟨S2,t',_,Z',tm',by rw[hv];exact p1,p2,by rw[p4];exact hd',p3,cw _ _ _,hz⟩
  .cases hq
 |eff key k nv nm d t'=>
  simp only[uD]at hq;split at hq
  .rename_i y hy;split at hq
   .rename_i x rest hc hk;simp only[a8]at hq;obtain⟨q1,q2,q4,q5⟩:=hq;obtain⟨outs,h1,h2⟩:=hd _ h (fO hk ho);rw[EK.clone_eq hy]at h1;obtain⟨r,e1,rfl⟩:=aa.1 h1;obtain⟨c1,c2⟩:=m7 ho.f hc;refine⟨c2,Bc c1 (x:=r) (by rw[<-eq_of_beq q1,<-d6 ρ _ _ q2];exact e1) ?_⟩;obtain⟨_,Z',e,hz,hv,hst,hd'⟩:=h2 r (aQ _);obtain⟨tm',S2,p1,p2,p3,p4⟩:=cB q5 (Ok.next q4 hk ho hz hst);exact⟨S2,t',_,Z',tm',by rw[hv];exact p1,p2,by rw[p4];exact hd',p3,cw _ _ _,hz⟩
   .cases hq
  .split at hq
   .rename_i key' rest hc hk;simp only[a8]at hq;obtain⟨q1,q4,q5⟩:=hq;obtain⟨outs,h1,h2⟩:=hd _ h (fO hk ho);obtain⟨c1,c2,c3⟩:=rX (P:=C.P) (Γ:=C.Γ) (h:=h) ho.f hc ((EK.same_out q1).trans h1);refine⟨c2,lS c3 c1 (λr hr=>(h2 r hr).1) λr hr=>?_⟩;obtain⟨_,Z',e,hz,hv,hst,hd'⟩:=h2 r hr;obtain⟨tm',S2,p1,p2,p3,p4⟩:=cB q5 (Ok.next q4 hk ho hz hst);exact⟨S2,t',_,Z',tm',by rw[hv];exact p1,p2,by rw[p4];exact hd',p3,cw _ _ _,hz⟩
   .cases hq
 |eff2 key k nv nm d t1 nv' nm' d' t2=>
  simp only[uD]at hq;split at hq
  .rename_i key' rest hc hk;simp only[a8]at hq;obtain⟨q1,q4,q5,q6⟩:=hq;obtain⟨outs,h1,h2⟩:=hd _ h (fO hk ho);obtain⟨c1,c2,c3⟩:=rX (P:=C.P) (Γ:=C.Γ) (h:=h) ho.f hc ((EK.same_out q1).trans h1);refine⟨c2,lS c3 c1 (λr hr=>(h2 r hr).1) λr hr=>?_⟩;obtain⟨_,Z',e,hz,⟨hv,hst,hd'⟩|⟨hv,hst,hd'⟩⟩:=h2 r hr
   .obtain⟨tm',S2,p1,p2,p3,p4⟩:=cB q5 (Ok.next q4 hk ho hz hst);exact⟨S2,t1,_,Z',tm',by rw[hv];exact p1,p2,by rw[p4];exact hd',p3,cw _ _ _,hz⟩
   .obtain⟨tm',S2,p1,p2,p3,p4⟩:=cB q6 (Ok.next q4 hk ho hz hst);exact⟨S2,t2,_,Z',tm',by rw[hv];exact p1,p2,by rw[p4];exact hd',p3,cw _ _ _,hz⟩
  .cases hq
 |_=>exact pl hq hd ho
theorem iR(hq:B8 C.P C.nt o S t go=true)(hd:den C t S.c ρ Z)(ho:OkC C ρ Z S tm h):
 quiet C.P C.Γ h (Fr.ev ⟨tm,C.nt,C.ms⟩) o.op=none/\LoudP C ⟨tm,C.nt,C.ms⟩ h o (Ga C ρ Z S tm o go):=by
 unfold B8 at hq;split at hq
 .exact pl hq hd ho
 .exact yD hq hd ho
end
theorem sB(hs:Snd C self){ops:Array Oper}{l:List Oper}(hq:uJ C.P C.nt self ops l K S t=true)(hd:den C t S.c ρ Z)(ho:OkC C ρ Z S tm h)(hK:∃c,kat C.c0 (K.map (·.1))=some (K,c)):xQ C ρ K tm h (.ops ops l):=by
 unfold uJ at hq;split at hq
 .exact cn (hs _ _ _ _ hq ρ Z tm h hd ho hK _)
 .rename_i o r;have frk:∀{e:X},kr e (λS' t'=>self (.ops ops (o::r)) K S' t') S t=true->xQ C ρ K tm h (.ops ops (o::r)):=λhq=>mo hq hd ho λb t' h1 h2 h3=>hs _ _ _ _ h1 ρ Z tm h h2 h3 hK;split at hq
  .cases hq
  .exact frk hq
  .rename_i hw;obtain⟨tm',S2,p1,p2,p3,p4⟩:=cB hq ho;exact uU (iX hw ho) p1 (hs _ _ _ _ p2 ρ Z tm' h (by rw[p4];exact hd) p3 hK)
  .rename_i hw;have hw:=iX hw ho;split at hq
   .rename_i v vc li hv;obtain⟨t',h1,h2,h3⟩:=oS hq hd;obtain⟨tm',S2,p1,p2,p3,p4⟩:=cB h1 ho;exact oA hw (xk ho.f ho.mem ho.asm hv h3) p1 (hs _ _ _ _ p2 ρ Z tm' h (by rw[p4];exact h2) p3 hK)
   .exact frk hq
   .split at hq
    .rename_i key' key k nv d t' hrow;obtain⟨hk,rfl⟩:=wI hrow;split at hq
     .rename_i rest hm;simp only[a8]at hq;obtain⟨q1,q2,q3⟩:=hq;obtain⟨e,fs,h1,h2⟩:=hd _ h (fO hm ho);have hok:=Ok.ext (mem:=S.mem) (d:=d) ho q2 (cw S.c ρ e) (Sub.refl Z) (by
       simp only[Sym.sc,a8]at q2;rw[iH (cw S.c ρ e) q2.2.1];exact ho.st)
      obtain⟨tm',S2,p1,p2,p3,p4⟩:=cB q3 hok;exact oA hw (zo ho.f hk (RK.same_says q1 h1)) p1 (hs _ _ _ _ p2 _ Z tm' h (by rw[p4];exact h2) p3 hK)
     .cases hq
    .obtain⟨l1,l2⟩:=iR hq hd ho;exact Fu hw l1 (l2.mono λv h' ⟨S',t',ρ',Z',tm',p,a,b,c,_,_⟩=>⟨_,p,hs _ _ _ _ a ρ' Z' tm' h' b c hK⟩)
theorem l9(hs:Snd C self){c:Code}(hq:pU self c K S t=true)(hd:den C t S.c ρ Z)(ho:OkC C ρ Z S tm h)(hK:KOk C K (.run c)):xQ C ρ K tm h (.run c):=by
 have _:=(inferInstance:Mute C.Γ);have hw:=hK.weak;unfold pU at hq;split at hq
 .exact jQ (hs _ _ _ _ hq ρ Z tm h hd ho hw _)
 .exact Runs.step (Ends.one (λ_=>rfl) (hs _ _ _ _ hq ρ Z tm h hd ho hw (.lit undef)))
 .exact iP (hs _ _ _ _ hq ρ Z tm h hd ho hw _)
 .exact jS (hs _ _ _ _ hq ρ Z tm h hd ho hw _)
 .exact bJ (hs _ _ _ _ hq ρ Z tm h hd ho (hK.down rfl))
 .exact d7 (hs _ _ _ _ hq ρ Z tm h hd ho (hK.down rfl))
 .rename_i a;exact Runs.step (Ends.eq (hs _ _ _ _ hq ρ Z tm h hd ho (hK.down rfl):Runs C.P C.Γ (.code a C.ro ⟨tm,C.nt,C.ms⟩ h) (aft C.P C.Γ C.ro C.Φ K)) λn=>rfl)
 .exact gg (hs _ _ _ _ hq ρ Z tm h hd ho (hK.down rfl))
 .rename_i x a b;split at hq
  .rename_i e hx;have hx:=ho.f.opd hx;split at hq
   .rename_i hdec;simp only[XV.sv,X.dec_ok ho.asm e hdec]at hx;exact eX true hx (hs _ _ _ _ hq ρ Z tm h hd ho (hK.down rfl))
   .rename_i hdec;simp only[XV.sv,X.dec_ok ho.asm e hdec]at hx;exact eX false hx (hs _ _ _ _ hq ρ Z tm h hd ho (hK.down rfl))
   .exact mo hq hd ho λb t' h1 h2 h3=>hs _ _ _ _ h1 ρ Z tm h h2 h3 hK
  .cases hq
 .exact bC (hs _ _ _ _ hq ρ Z tm h hd ho hw)
 .simp only[a8]at hq;exact AC hq.1 (l8 (hs _ _ _ _ hq.2 ρ Z tm h hd ho hw [] .nil))
 .cases hq
theorem mh{fr:Fr}(hf:FM ρ S.f fr)(hm:Mem C.Γ ρ S.toSy h):∀{l:List ResultVar} {vs:List XV},Ac C.P S l=some vs->dX C.P C.Γ fr h l=some (svL ρ vs)
 |[],vs,hq=>by have _:=(inferInstance:Mute C.Γ);rw[Ac,a7]at hq;rw[<-hq];rfl
 | .tmp x::l,vs,hq=>by
   unfold Ac at hq;split at hq
   .rename_i v r hv hr;obtain rfl:=ab hq;simp only[dX,mh hf hm hr,af,hf x v hv,svL]
   .cases hq
 | .cell a ty::l,vs,hq=>by
   unfold Ac at hq;split at hq
   .rename_i v li r hv hr;obtain rfl:=ab hq;simp only[dX,mh hf hm hr,po hf hm hv,svL]
   .cases hq
theorem oW:∀{mk:List Nat} {mem m:List MI} {h:Hp},yZ mk mem=some m->St Z (mem.map (MI.den ρ)++C.l) h->∃h',eH (mk.map ρ.n) h=some h'/\St Z (m.map (MI.den ρ)++C.l) h'
 |[],mem,m,h,hq,hs=>by
  have _:=(inferInstance:Mute C.Γ);rw[yZ,a7]at hq;rw[<-hq];exact⟨h,rfl,hs⟩
 |n::mk,mem,m,h,hq,hs=>by
  unfold yZ at hq;split at hq
  .rename_i r hr;have h1:=hs.perm ((mz ρ hr).append_right C.l);have h2:=(show St Z ([]++own (ρ.n n) (.deferred true)::(r.map (MI.den ρ)++C.l)) h from h1).get;have h3:=h1.set0 (o':=.deferred false);obtain⟨h',e1,e2⟩:=oW hq h3;exact⟨h',by simp only[ax,eH,h2.1];exact e1,e2⟩
  .cases hq
theorem v6{fn:Func}{e:SExit}{fr:Fr}{h h':Hp}{v:SV}{vs:List XV}(he:xG e=true)(hs:eH fr.marks h=some h')(hr:dX C.P C.Γ fr h' fn.results.toList=some (svL ρ vs)):g8 C.P C.Γ fn ⟨e,fr,h,v⟩=some [⟨.ret,fr,h',(Bj vs).sv ρ⟩]:=by
 have _:=(inferInstance:Mute C.Γ);have main:(match eH fr.marks h with
  |none=>none
  |some h=>match dX C.P C.Γ fr h fn.results.toList with
   |some [v]=>some [(⟨.ret,fr,h,v⟩:Out)]
   |some vs=>some [⟨.ret,fr,h,.tuple vs⟩]
   |none=>none)=some [⟨.ret,fr,h',(Bj vs).sv ρ⟩]:=by
  simp only[hs,hr]
  match vs with
  |[]=>rfl
  |[v]=>rfl
  |_::_::_=>rfl
 unfold g8;cases e with
 |normal=>exact main
 |ret=>exact main
 |exit id=>cases he
theorem sj{fn:Option Func}(hroot:∀f,fn=some f->C.Φ=λo=>∃r,g8 C.P C.Γ f o=some [r]/\C.Post r.v r.hp)(hs:Snd C self){e:SExit}(hq:vL C.P fn self e K S t=true)(hd:den C t S.c ρ Z)(ho:OkC C ρ Z S tm h)(hK:∃c,kat C.c0 (K.map (·.1))=some (K,c)):xQ C ρ K tm h (.pop e):=by
 intro v;unfold vL at hq;split at hq
 .show C.Φ _;unfold KL at hq;split at hq
  .split at hq
   .rename_i f;rw[hroot f rfl];simp only[a8]at hq;obtain⟨q1,q2⟩:=hq;split at q2
    .rename_i m hm;split at q2
     .rename_i vs hvs;simp only[a8]at q2;have hst:=ho.st;obtain⟨h',e1,e2⟩:=oW hm hst;rw[<-ho.mks]at e1;have ho':OkC C ρ Z {S with mem:=m} tm h':=⟨ho.f,e2,ho.asm,ho.win,ho.mks⟩;refine⟨_,v6 q1 e1 (mh ho'.f ho'.mem hvs),?_⟩;show C.Post _ _;rw[<-XV.same_eq ρ _ _ q2.1];exact hd h' (qR q2.2 e2)
     .cases q2
    .cases q2
   .cases hq
  .simp only[a8]at hq;rw[<-Dy hq.1];exact hd _ _ _ (mD ho.f hq.2.1) (qR hq.2.2 ho.st)
  .cases hq
 .rename_i d a b K';obtain⟨x,hx⟩:=hK;obtain⟨k1,k2⟩:=KOk.up hx;split at hq
  .cases hb:Nat.beq d 0 with
   |true=>
    rw[hb,bf]at hq;have:=hs _ _ _ _ hq ρ Z tm h hd ho (KOk.down (c':=b) (d:=1) k1 rfl);simp only[aft,hb,bf];exact this
   |false=>
    rw[hb,bg]at hq;simp only[aft,hb,bg];exact hs _ _ _ _ hq ρ Z tm h hd ho ⟨_,k1⟩ v
  .rename_i hne;have:=hs _ _ _ _ hq ρ Z tm h hd ho ⟨_,k1⟩ v;simp only[aft];cases Nat.beq d 0 with
   |true=>
    cases e with
    |normal=>exact absurd rfl (hne)
    |ret=>exact this
    |exit id=>exact this
   |false=>exact this
 .rename_i d id a K';obtain⟨x,hx⟩:=hK;obtain⟨k1,k2⟩:=KOk.up hx;split at hq
  .rename_i k;cases hb:Nat.beq k id with
   |true=>
    rw[hb,bf]at hq;have:=hs _ _ _ _ hq ρ Z tm h hd ho ⟨_,k1⟩ v;simp only[aft,lh,hb,bf];exact this
   |false=>
    rw[hb,bg]at hq;simp only[aft,lh,hb,bg];exact hs _ _ _ _ hq ρ Z tm h hd ho ⟨_,k1⟩ v
  .rename_i hne;have:=hs _ _ _ _ hq ρ Z tm h hd ho ⟨_,k1⟩ v;simp only[aft];cases e with
   |normal=>exact this
   |ret=>exact this
   |exit k=>exact absurd rfl (hne k)
 .rename_i d c K';obtain⟨x,hx⟩:=hK;obtain⟨k1,k2⟩:=KOk.up hx;split at hq
  .have:=hs _ _ _ _ hq ρ Z tm h hd ho k1;simp only[aft];exact this
  .rename_i hne;have:=hs _ _ _ _ hq ρ Z tm h hd ho ⟨_,k1⟩ v;simp only[aft];cases e with
   |normal=>exact absurd rfl hne
   |ret=>exact this
   |exit k=>exact this
 .obtain⟨x,hx⟩:=hK;obtain⟨k1,k2⟩:=KOk.up hx;exact hs _ _ _ _ hq ρ Z tm h hd ho ⟨_,k1⟩ v
 .obtain⟨x,hx⟩:=hK;obtain⟨k1,k2⟩:=KOk.up hx;exact hs _ _ _ _ hq ρ Z tm h hd ho ⟨_,k1⟩ v
 .cases hq
end
section
variable {C:Cx}{ρ:Va}{Z:Hp}{S:Sym}{tm:T SV}{h:Hp}{ds:List DH}{hs:List Held}{i:Nat}
theorem uo(hr:HR ρ ds hs):∀{t:T AObj},fM i ds=true->hide i hs t=t:=by
 induction hr with
 |nil=>intros;rfl
 |no _ _ ih=>intro t ho;simp only[fM,al,a8]at ho;exact ih ho.2
 |li _ ih=>intro t ho;simp only[fM,al,a8]at ho;exact ih ho.2
 |any0 _ ih=>intro t ho;simp only[fM,al,a8]at ho;exact ih ho.2
 |on0 _ ih=>intro t ho;simp only[fM,al,a8]at ho;exact ih ho.2
 |any _ ih=>intro t ho;simp only[fM,al,a8]at ho;exact ih ho.2
 |on hf _ ih=>intro t ho;simp only[fM,al,a8]at ho;exact ih ho.2
 |chg _ ih=>
  intro t ho;simp only[fM,al,a8]at ho;simp only[hide,ho.1,bf];exact ih ho.2
 |last _ _=>intro t ho;simp only[fM,al,Bool.false_and]at ho;cases ho
theorem xS{t r:T AObj}(hr:HR ρ ds hs):∀{acc:T AObj},fM i ds=true->fG i t r hs acc=some acc:=by
 induction hr with
 |nil=>intros;rfl
 |no _ _ ih=>intro t ho;simp only[fM,al,a8]at ho;exact ih ho.2
 |li _ ih=>intro t ho;simp only[fM,al,a8]at ho;exact ih ho.2
 |any0 _ ih=>intro t ho;simp only[fM,al,a8]at ho;exact ih ho.2
 |on0 _ ih=>intro t ho;simp only[fM,al,a8]at ho;exact ih ho.2
 |any _ ih=>intro t ho;simp only[fM,al,a8]at ho;exact ih ho.2
 |on hf _ ih=>intro t ho;simp only[fM,al,a8]at ho;exact ih ho.2
 |chg _ ih=>
  intro t ho;simp only[fM,al,a8]at ho;simp only[fG,ho.1,bf];exact ih ho.2
 |last _ _=>intro t ho;simp only[fM,al,Bool.false_and]at ho;cases ho
def iW(ds:List DH):Bool:=ds.all λd=>match d.kd with
 | .last=>false
 |_=>true
theorem pr{mem:List MI}(hk:dM ds mem=true):iW ds=true:=by
 refine aE.2 λd hd=>?_;have:=aE.1 hk d hd;obtain⟨dd,kd⟩:=d;cases kd with
 |last=>cases this
 |_=>rfl
theorem g7{b:Nat}(hr:HR ρ ds hs):∀{t:T AObj},iW ds=true->(∀n,lr i n ds=true->ρ.n n≠b)->(hide i hs t).get b=t.get b:=by
 induction hr with
 |nil=>intros;rfl
 |last _ _=>intro t hl;simp only[iW,al,Bool.false_and]at hl;cases hl
 |no _ _ ih=>exact λhl hn=>ih (by simp only[iW,al,aI]at hl⊢;exact hl) λn hh=>hn n (by simp only[lr,List.any_cons,Bool.false_or];exact hh)
 |li _ ih=>exact λhl hn=>ih (by simp only[iW,al,aI]at hl⊢;exact hl) λn hh=>hn n (by simp only[lr,List.any_cons,Bool.false_or];exact hh)
 |any0 _ ih=>exact λhl hn=>ih (by simp only[iW,al,aI]at hl⊢;exact hl) λn hh=>hn n (by simp only[lr,List.any_cons,Bool.false_or];exact hh)
 |on0 _ ih=>exact λhl hn=>ih (by simp only[iW,al,aI]at hl⊢;exact hl) λn hh=>hn n (by simp only[lr,List.any_cons,Bool.false_or];exact hh)
 |any _ ih=>exact λhl hn=>ih (by simp only[iW,al,aI]at hl⊢;exact hl) λn hh=>hn n (by simp only[lr,List.any_cons,Bool.false_or];exact hh)
 |on hf _ ih=>exact λhl hn=>ih (by simp only[iW,al,aI]at hl⊢;exact hl) λn hh=>hn n (by simp only[lr,List.any_cons,Bool.false_or];exact hh)
 |@chg d n ob ds hs _ ih=>
  intro t hl hn;have hl:iW ds=true:=by simp only[iW,al,aI]at hl⊢;exact hl
  have hn2:∀m,lr i m ds=true->ρ.n m≠b:=λm hm=>hn m (by
   have hm:ds.any _=true:=hm;simp only[lr,List.any_cons,hm,Bool.or_true])
  simp only[hide];cases hb:Nat.testBit d i with
  |true=>rw[bf];exact ih hl hn2
  |false=>
   rw[bg,ih hl hn2,T.get_put,bh];exact λe=>hn n (by simp only[lr,List.any_cons,hb,fl rfl,Bool.not_false,aF,Bool.true_or]) e.symm
theorem JL{j:Nat}(hr:HR ρ ds hs):HR ρ (kX j ds) (drop j hs):=by
 induction hr with
 |nil=>exact .nil
 |@no d li ds hs hf _ ih=>
  simp only[kX,List.filter_cons];cases Nat.testBit d j with
  |true=>exact ih
  |false=>exact .no hf ih
 |@li d li ds hs _ ih=>
  simp only[kX,List.filter_cons,drop];cases Nat.testBit d j with
  |true=>exact ih
  |false=>exact .li ih
 |@any0 d ds hs _ ih=>
  simp only[kX,List.filter_cons];cases Nat.testBit d j with
  |true=>exact ih
  |false=>exact .any0 ih
 |@on0 d n ds hs _ ih=>
  simp only[kX,List.filter_cons];cases Nat.testBit d j with
  |true=>exact ih
  |false=>exact .on0 ih
 |@any d fs ds hs _ ih=>
  simp only[kX,List.filter_cons,drop];cases Nat.testBit d j with
  |true=>exact ih
  |false=>exact .any ih
 |@on d n fs ds hs hf _ ih=>
  simp only[kX,List.filter_cons,drop];cases Nat.testBit d j with
  |true=>exact ih
  |false=>exact .on hf ih
 |@chg d n ob ds hs _ ih=>
  simp only[kX,List.filter_cons,drop];cases Nat.testBit d j with
  |true=>exact ih
  |false=>exact .chg ih
 |@last d b ob ds hs _ ih=>
  simp only[kX,List.filter_cons,drop];cases Nat.testBit d j with
  |true=>exact ih
  |false=>exact .last ih
theorem lv{c:Cnt}{ρ':Va}(ha:Agree c ρ ρ'){d:Nat}{li:LI}(hs:oh c ⟨d,.li li⟩=true):li.facts ρ'=li.facts ρ:=by
 cases li with
 |no=>rfl
 |blk n off vs=>
  simp only[oh,a8]at hs;simp only[LI.facts,ha.n n (ca hs.1),fB ha vs hs.2]
 |win w k vs=>
  simp only[oh,a8]at hs;simp only[LI.facts,ha.r w (ca hs.1),fB ha vs hs.2]
theorem jN{c:Cnt}{ρ':Va}(ha:Agree c ρ ρ')(hr:HR ρ ds hs):ds.all (oh c)=true->HR ρ' ds hs:=by
 induction hr with
 |nil=>exact λ_=>.nil
 |no hf _ ih=>
  intro h;simp only[al,a8]at h;exact .no (by rw[lv ha h.1];exact hf) (ih h.2)
 |li _ ih=>
  intro h;simp only[al,a8]at h;rw[<-lv ha h.1];exact .li (ih h.2)
 |any0 _ ih=>
  intro h;simp only[al,a8]at h;exact .any0 (ih h.2)
 |on0 _ ih=>
  intro h;simp only[al,a8]at h;exact .on0 (ih h.2)
 |any _ ih=>
  intro h;simp only[al,a8]at h;exact .any (ih h.2)
 |@on d n fs ds hs hf _ ih=>
  intro h;simp only[al,a8]at h;exact .on (λf hx=>by rw[ha.n _ (ca h.1)];exact hf f hx) (ih h.2)
 |@chg d n ob ds hs _ ih=>
  intro h;simp only[al,a8]at h;rw[<-ha.n n (ca h.1)];exact .chg (ih h.2)
 |last _ ih=>
  intro h;simp only[al,a8]at h;exact .last (ih h.2)
def MI.idx:MI->Option Nat
 | .blk n _ _=>some n
 | .obj n _=>some n
 | .asr _=>none
theorem uL{x:MI}{n:Nat}(hx:x.idx=some n):∃o,x.den ρ=own (ρ.n n) o:=by
 cases x with
 |blk m cs e=>obtain rfl:=ab hx;exact⟨_,rfl⟩
 |obj m o=>obtain rfl:=ab hx;exact⟨_,rfl⟩
 |asr k=>cases hx
theorem rN{n:Nat}{mem:List MI}(hx:mB n mem=true):∃x∈mem,x.idx=some n:=by
 obtain⟨x,h1,h2⟩:=List.any_eq_true.1 hx;refine⟨x,h1,?_⟩;cases x with
 |blk m cs e=>rw[MI.idx,eq_of_beq h2]
 |obj m o=>rw[MI.idx,eq_of_beq h2]
 |asr k=>cases h2
theorem A4(ho:OkC C ρ Z S tm h){n m:Nat}(hn:mB n S.mem=true)(hm:mB m S.mem=true)(hne:n≠m):ρ.n n≠ρ.n m:=by
 obtain⟨x,hx,ix⟩:=rN hn;obtain⟨y,hy,iy⟩:=rN hm;obtain⟨o,eo⟩:=uL (ρ:=ρ) ix;obtain⟨p,ep⟩:=uL (ρ:=ρ) iy;obtain⟨a,b,hab⟩:=List.append_of_mem hx;have hst:=ho.st;rw[hab]at hst hy;have hy:y∈a\/y∈b:=by
  rcases List.mem_append.1 hy with hy|hy
  .exact .inl hy
  .rcases aD.1 hy with rfl|hy
   .exact absurd (ab (ix.symm.trans iy)) hne
   .exact .inr hy
 rcases hy with hy|hy
 .obtain⟨a1,a2,rfl⟩:=List.append_of_mem hy;simp only[aH,ax,eo,ep,aC,List.cons_append]at hst;exact hst.ne.symm
 .obtain⟨b1,b2,rfl⟩:=List.append_of_mem hy;simp only[aH,ax,eo,ep,aC,List.cons_append]at hst;exact hst.ne
theorem qk(ho:OkC C ρ Z S tm h){n:Nat}(hn:mB n S.mem=true):ρ.n n<h.next/\Z.objs.get (ρ.n n)=none:=by
 obtain⟨x,hx,ix⟩:=rN hn;obtain⟨o,eo⟩:=uL (ρ:=ρ) ix;obtain⟨a,b,hab⟩:=List.append_of_mem hx;have hst:=ho.st;rw[hab]at hst;simp only[aH,ax,eo,aC,List.cons_append]at hst;refine⟨hst.get.2,?_⟩;obtain⟨D,h1,⟨h2,_⟩,_⟩:=hst.pull.sep;exact Classical.not_not.1 (h1 _ ((h2 _).2 rfl)).1
theorem qi(hk:dM ds S.mem=true){n:Nat}(hh:lr i n ds=true):mB n S.mem=true:=by
 obtain⟨d,h1,h2⟩:=List.any_eq_true.1 hh;have h3:=aE.1 hk d h1;obtain⟨dd,kd⟩:=d;cases kd with
 |li x=>cases h2
 |any=>cases h2
 |on _=>cases h2
 |last=>cases h2
 |chg m=>
  simp only[a8]at h2;rw[<-eq_of_beq h2.1];exact h3
theorem qL{n:Nat}{cs:List XV}{e:TypeId}{mem:List MI}(hg:getBlk n mem=some (cs,e)):mB n mem=true:=by
 obtain⟨a,b,rfl⟩:=gr hg;simp[mB,List.any_append,List.any_cons]
theorem fT{n:Nat}{x:List XV×TypeId}:∀{mem:List MI},getBlk n (qv i ds mem)=some x->getBlk n mem=some x/\lr i n ds=false
 |[],hg=>by cases hg
 | .blk m cs e::mem,hg=>by
   simp only[qv,List.filter_cons]at hg;cases hh:lr i m ds with
   |true=>
    simp only[hh,Bool.not_true,aA,if_false]at hg;obtain⟨h1,h2⟩:=fT (mem:=mem) hg;refine⟨?_,h2⟩;rw[getBlk];have:Nat.beq n m=false:=fH λe=>by subst e;rw[h2]at hh;cases hh
    rw[this];exact h1
   |false=>
    simp only[hh,Bool.not_false,if_true]at hg;rw[getBlk]at hg⊢;cases hb:Nat.beq n m with
    |true=>
     rw[hb,bf]at hg;exact⟨hg,by rw[eq_of_beq hb];exact hh⟩
    |false=>
     rw[hb,bg]at hg;exact fT (mem:=mem) hg
 | .obj m o::mem,hg=>by
   simp only[qv,List.filter_cons]at hg;cases hh:lr i m ds with
   |true=>
    simp only[hh,Bool.not_true,aA,if_false]at hg;exact fT (mem:=mem) hg
   |false=>
    simp only[hh,Bool.not_false,if_true]at hg;exact fT (mem:=mem) hg
 | .asr k::mem,hg=>by
   simp only[qv,List.filter_cons,if_true]at hg;exact fT (mem:=mem) hg
theorem Ck(ho:OkC C ρ Z S tm h)(hr:HR ρ ds hs)(hk:dM ds S.mem=true){n:Nat}(hn:mB n S.mem=true)(hv:lr i n ds=false):(hide i hs h.objs).get (ρ.n n)=h.objs.get (ρ.n n):=
 g7 hr (pr hk) λm hm=>A4 ho (qi hk hm) hn λe=>by subst e;rw[hv]at hm;cases hm
theorem IB(ho:OkC C ρ Z S tm h)(hr:HR ρ ds hs)(hk:dM ds S.mem=true):Mem C.Γ ρ {S.toSy with mem:=qv i ds S.mem} ⟨hide i hs h.objs,h.next⟩:=by
 refine⟨λn cs e hg=>?_,λw cs hw=>?_⟩
 .obtain⟨h1,h2⟩:=fT hg;exact(Ck ho hr hk (qL h1) h2).trans (ho.blk h1).1
 .refine Cv (h:=⟨hide i hs h.objs,h.next⟩) (λb o hb=>?_) ho.st.zlt (ho.win (w,cs) (kw hw));refine(g7 hr (pr hk) λm hm e=>?_).trans (ho.st.frz b o hb);have:=(qk ho (qi hk hm)).2;rw[e,hb]at this;cases this
theorem tz(ho:OkC C ρ Z S tm h){w k:Nat}{vs:List XV}(hw:(getWin w S.win).isSome=true){b:Nat}(hb:b=h.next\/Z.objs.get b=none):∀f∈mH (ρ.r w) k (svL ρ vs),f.blk≠b:=by
 obtain⟨cs,hcs⟩:=Option.isSome_iff_exists.1 hw;intro f hf e;rcases ho.win (w,cs) (kw hcs)with⟨b',o,hp,w'⟩|⟨g,o,hp,_⟩
 .have hp:ρ.r w=.ptr b' o:=hp;rw[hp]at hf;simp only[mH,List.mem_singleton]at hf;subst hf;have e:b'=b:=e;subst e;obtain⟨l,h1,_⟩:=w'.get;cases hz:Z.objs.get b' with
  |none=>simp only[knownCells,hz]at h1;cases h1
  |some ob=>
   rcases hb with hb|hb
   .have:=ho.st.zlt b' ob hz;omega
   .rw[hb]at hz;cases hz
 .have hp:ρ.r w=.lit (.pointer (some ⟨g,o,none⟩)):=hp;rw[hp]at hf;cases hf
theorem oT(ho:OkC C ρ Z S tm h){n b:Nat}(hb:b=h.next\/(mB n S.mem=true/\b=ρ.n n))(hr:HR ρ ds hs):dM ds S.mem=true->jF i n S.win ds=true->cE i b hs=true:=by
 have hb2:b=h.next\/Z.objs.get b=none:=hb.imp id λ⟨h1,h2⟩=>by rw[h2];exact(qk ho h1).2
 induction hr with
 |nil=>intros;rfl
 |last _ _=>intro h1;simp only[dM,al,Bool.false_and]at h1;cases h1
 |no _ _ ih=>
  intro h1 h2;simp only[dM,jF,al,a8]at h1 h2;exact ih h1.2 h2.2
 |any0 _ ih=>
  intro h1 h2;simp only[dM,jF,al,a8]at h1 h2;exact ih h1.2 h2.2
 |on0 _ ih=>
  intro h1 h2;simp only[dM,jF,al,a8]at h1 h2;exact ih h1.2 h2.2
 |@any d fs ds hs _ ih=>
  intro h1 h2;simp only[dM,jF,al,a8,Bool.or_false]at h1 h2;simp only[cE,h2.1,bf,ih h1.2 h2.2,aF]
 |@on d n fs ds hs hf _ ih=>
  intro h1 h2;simp only[dM,jF,al,a8,Bool.or_false]at h1 h2;simp only[cE,h2.1,bf,ih h1.2 h2.2,aF]
 |@chg d m ob ds hs _ ih=>
  intro h1 h2;simp only[dM,jF,al,a8]at h1 h2;simp only[cE,ih h1.2 h2.2,List.all_nil,Bool.and_true];cases Nat.testBit d i<;>rfl
 |@li d li ds hs _ ih=>
  intro h1 h2;simp only[dM,jF,al,a8]at h1 h2;simp only[cE,ih h1.2 h2.2,Bool.and_true];cases hd:Nat.testBit d i with
  |true=>rfl
  |false=>
   rw[bg];have h3:=h2.1;rw[hd,Bool.false_or]at h3;cases li with
   |no=>rfl
   |blk m off vs=>
    have h1:mB m S.mem=true:=h1.1;simp only[Bool.not_eq_true']at h3;simp only[LI.facts,al,List.all_nil,Bool.and_true,Fact.blk];rw[fH]
    .rfl
    .rcases hb with hb|⟨hb,rfl⟩
     .have:=(qk ho h1).1;omega
     .exact A4 ho h1 hb (ej h3)
   |win w k vs=>
    rw[aE];intro f hf;rw[fH (tz ho h3 hb2 f hf)];rfl
theorem u3(ho:OkC C ρ Z S tm h){n b:Nat}{ns:List Nat}(hb0:b=h.next)(hns:∀m∈ns,ρ.n m<h.next)(hr:HR ρ ds hs):dM ds S.mem=true->ko i n ns S.win ds=true->cE i b hs=true:=by
 have hb:b=h.next\/(mB n S.mem=true/\b=ρ.n n):=.inl hb0;have hb2:b=h.next\/Z.objs.get b=none:=hb.imp id λ⟨h1,h2⟩=>by rw[h2];exact(qk ho h1).2
 induction hr with
 |nil=>intros;rfl
 |last _ _=>intro h1;simp only[dM,al,Bool.false_and]at h1;cases h1
 |no _ _ ih=>
  intro h1 h2;simp only[dM,ko,al,a8]at h1 h2;exact ih h1.2 h2.2
 |any0 _ ih=>
  intro h1 h2;simp only[dM,ko,al,a8]at h1 h2;exact ih h1.2 h2.2
 |on0 _ ih=>
  intro h1 h2;simp only[dM,ko,al,a8]at h1 h2;exact ih h1.2 h2.2
 |@any d fs ds hs _ ih=>
  intro h1 h2;simp only[dM,ko,al,a8,Bool.or_false]at h1 h2;simp only[cE,h2.1,bf,ih h1.2 h2.2,aF]
 |@on d m fs ds hs hf _ ih=>
  intro h1 h2;simp only[dM,ko,al,a8]at h1 h2;simp only[cE,ih h1.2 h2.2,Bool.and_true];cases hd:Nat.testBit d i with
  |true=>rfl
  |false=>
   rw[bg];have h3:=h2.1;rw[hd,Bool.false_or]at h3;obtain⟨m',hm,he⟩:=List.any_eq_true.1 h3;obtain rfl:=aj he;refine aE.2 λf hx=>?_;rw[hf f hx,hb0,fH (Nat.ne_of_lt (hns m hm))];rfl
 |@chg d m ob ds hs _ ih=>
  intro h1 h2;simp only[dM,ko,al,a8]at h1 h2;simp only[cE,ih h1.2 h2.2,List.all_nil,Bool.and_true];cases Nat.testBit d i<;>rfl
 |@li d li ds hs _ ih=>
  intro h1 h2;simp only[dM,ko,al,a8]at h1 h2;simp only[cE,ih h1.2 h2.2,Bool.and_true];cases hd:Nat.testBit d i with
  |true=>rfl
  |false=>
   rw[bg];have h3:=h2.1;rw[hd,Bool.false_or]at h3;cases li with
   |no=>rfl
   |blk m off vs=>
    have h1:mB m S.mem=true:=h1.1;simp only[Bool.not_eq_true']at h3;simp only[LI.facts,al,List.all_nil,Bool.and_true,Fact.blk];rw[fH]
    .rfl
    .rcases hb with hb|⟨hb,rfl⟩
     .have:=(qk ho h1).1;omega
     .exact A4 ho h1 hb (ej h3)
   |win w k vs=>
    rw[aE];intro f hf;rw[fH (tz ho h3 hb2 f hf)];rfl
theorem yC{c:Cnt}{ρ':Va}{Z' h':Hp}{S':Sym}{tm':T SV}{j:Nat}(ha:Agree c ρ ρ')(ho:OkC C ρ' Z' S' tm' h')(all:List Held)(hr:HR ρ ds hs):ds.all (oh c)=true->jw j S'.mem S'.win ds=true->dx h' j all hs=true:=by
 have one:∀{f:Fact} {l:List Fact},(l.all (eW h'))=true->l.all (λf=>hidden j all f.blk||eW h' f)=true:=λ{f l} hl=>aE.2 λf hf=>by rw[aE.1 hl f hf,Bool.or_true]
 induction hr with
 |nil=>intros;rfl
 |@last d b ob ds hs _ ih=>
  intro h1 h2;simp only[jw,al,a8]at h1 h2;simp only[dx,ih h1.2 h2.2,List.all_nil,Bool.and_true];cases Nat.testBit d j<;>rfl
 |no _ _ ih=>
  intro h1 h2;simp only[jw,al,a8]at h1 h2;exact ih h1.2 h2.2
 |any0 _ ih=>
  intro h1 h2;simp only[jw,al,a8]at h1 h2;exact ih h1.2 h2.2
 |on0 _ ih=>
  intro h1 h2;simp only[jw,al,a8]at h1 h2;exact ih h1.2 h2.2
 |@any d fs ds hs _ ih=>
  intro h1 h2;simp only[jw,al,a8,Bool.or_false]at h1 h2;simp only[dx,h2.1,bf,ih h1.2 h2.2,aF]
 |@on d n fs ds hs hf _ ih=>
  intro h1 h2;simp only[jw,al,a8,Bool.or_false]at h1 h2;simp only[dx,h2.1,bf,ih h1.2 h2.2,aF]
 |@chg d m ob ds hs _ ih=>
  intro h1 h2;simp only[jw,al,a8]at h1 h2;simp only[dx,ih h1.2 h2.2,List.all_nil,Bool.and_true];cases Nat.testBit d j<;>rfl
 |@li d li ds hs _ ih=>
  intro h1 h2;simp only[jw,al,a8]at h1 h2;simp only[dx,ih h1.2 h2.2,Bool.and_true];cases hd:Nat.testBit d j with
  |true=>rfl
  |false=>
   rw[bg];have h3:=h2.1;rw[hd,Bool.false_or]at h3;refine one (f:=.cells 0 0 []) ?_;rw[<-lv ha h1.1];cases li with
   |no=>rfl
   |blk m off vs=>
    simp only at h3;split at h3
    .rename_i cs e hg;split at h3
     .rename_i ws hws;simp only[a8]at h3;have hc:=lE (ρ:=ρ') hws;rw[<-d6 ρ' _ _ h3.1]at hc;simp only[LI.facts,al,List.all_nil,Bool.and_true,eW,knownCells,(ho.blk hg).1,ay,gS,hc,kh ρ' vs h3.2]
     .cases h3
    .cases h3
   |win w k vs=>
    simp only at h3;split at h3
    .rename_i cs hg;split at h3
     .rename_i ws hws;simp only[a8]at h3;have hc:=lE (ρ:=ρ') hws;rw[<-d6 ρ' _ _ h3.1]at hc;exact u6 (ho.mem.win w cs hg) (by rw[gS];exact hc) (kh ρ' vs h3.2)
     .cases h3
    .cases h3
variable [Mute C.Γ]{ops:Array Oper}{o:Oper}{r:List Oper}{mask k:Nat}{fr fr2:Fr}{Φ:Out->Prop}{v:SV}{self:pw}{t:Ct}{K:Stk}
theorem DC{j:Nat}(hrd:dE mask ops.toList 0=[(j,o)])(hw:cL ops fr o=some true)(hl:LoudP C fr ⟨hide j hs h.objs,h.next⟩ o λv h'=>∃t fr2,fG j h.objs h'.objs hs h'.objs=some t/\fr.put o.dst v=some fr2/\dx h' j hs hs=true/\nY C.P C.Γ ops k (mask|||2^j) (drop j hs) fr2 ⟨t,h'.next⟩ Φ):KR C.P C.Γ ops k (mask,hs,fr,h) Φ:=by
 have _:=(inferInstance:Mute C.Γ);refine Ends.bind (g:=λn (r:SV×Hp)=>match fG j h.objs r.2.objs hs r.2.objs,fr.put o.dst r.1 with
  |some t,some f=>bif dx r.2 j hs hs then drawn C.P C.Γ (f8 C.P C.Γ theMem n) ops k (mask|||2^j) (drop j hs) f ⟨t,r.2.next⟩else none
  |_,_=>none) hl (λx hx=>?_) λn l hl=>?_
 .obtain⟨t,fr2,h1,h2,h3,h4⟩:=hx;refine Ends.eq h4 λn=>?_;simp only[h1,h2,h3,bf]
 .simp only[hrd,Dw,iB,hw,hl];rfl
theorem mb{l l':List Oper}{i i' m m':Nat}{hs':List Held}{fr':Fr}{h':Hp}(he:ct C.P C.Γ ops l i m hs fr h=ct C.P C.Γ ops l' i' m' hs' fr' h')(ht:mP C.P C.Γ ops l' i' m' k hs' fr' h' Φ):mP C.P C.Γ ops l i m k hs fr h Φ:=by
 have _:=(inferInstance:Mute C.Γ);obtain⟨x,h1,h2⟩:=ht;exact⟨x,he.trans h1,h2⟩
theorem yL(hm:Nat.testBit mask i=false)(hd:Nat.beq (Nat.land (depsOf o) mask) (depsOf o)=true)(hw:cL ops fr o=some false)(hput:fr.put o.dst (.lit undef)=some fr2):ct C.P C.Γ ops (o::r) i mask hs fr h=ct C.P C.Γ ops r (i+1) (mask|||2^i) hs fr2 h:=by
 have _:=(inferInstance:Mute C.Γ);rw[ct,hm,bg,hd,bf,hw];simp only[hput]
def EL(d:Nat)(fs:List Fact)(hs:List Held):List Held:=match fs with
 |[]=>hs
 |_=>⟨d,fs,none⟩::hs
theorem wM{fs:List Fact}(hm:Nat.testBit mask i=false)(hd:Nat.beq (Nat.land (depsOf o) mask) (depsOf o)=true)(hw:cL ops fr o=some true)(hq:quiet C.P C.Γ ⟨hide i hs h.objs,h.next⟩ fr.ev o.op=some (v,fs))(hput:fr.put o.dst v=some fr2):ct C.P C.Γ ops (o::r) i mask hs fr h=ct C.P C.Γ ops r (i+1) (mask|||2^i) (EL (descOf i ops.toList 0 0) fs hs) fr2 h:=by
 have _:=(inferInstance:Mute C.Γ);rw[ct,hm,bg,hd,bf,hw];simp only[tG hq,hput];cases fs<;>rfl
theorem J4(hm:Nat.testBit mask i=false)(hd:Nat.beq (Nat.land (depsOf o) mask) (depsOf o)=true)(hw:cL ops fr o=some true)(hk:m3 o.op=true):ct C.P C.Γ ops (o::r) i mask hs fr h=ct C.P C.Γ ops r (i+1) mask hs fr h:=by
 have hq:quiet C.P C.Γ ⟨hide i hs h.objs,h.next⟩ fr.ev o.op=none/\fF C.P ⟨hide i hs h.objs,h.next⟩ fr.ev o.op=none:=by
  generalize o.op=op at hk;unfold m3 at hk;split at hk<;>first|exact⟨rfl,rfl⟩|cases hk
 rw[ct,hm,bg,hd,bf,hw];simp only[fh hq.1,hq.2]
theorem LO{d:Nat}{li:LI}(hr:HR ρ ds hs):HR ρ (Kq d li ds) (EL d (li.facts ρ) hs):=by
 cases li with
 |no=>exact hr
 |blk n off vs=>exact .li hr
 |win w k vs=>
  show HR ρ (⟨d,.li (.win w k vs)⟩::ds) _;cases e:(LI.win w k vs).facts ρ with
  |nil=>exact .no e hr
  |cons f fs=>
   have:=HR.li (d:=d) (li:=.win w k vs) hr;rw[e]at this;exact this
theorem ME{d:Nat}{fs:List Fact}(hr:HR ρ ds hs):HR ρ (⟨d,.any⟩::ds) (EL d fs hs):=by
 cases fs with
 |nil=>exact .any0 hr
 |cons f fs=>exact .any hr
theorem O4{d n:Nat}{fs:List Fact}(hf:∀f∈fs,f.blk=ρ.n n)(hr:HR ρ ds hs):HR ρ (⟨d,.on n⟩::ds) (EL d fs hs):=by
 cases fs with
 |nil=>exact .on0 hr
 |cons f fs=>exact .on hf hr
theorem Jh{P:Program}{t:TypeId}{b:Nat}{k v:SV}{ok:Bool}{fs:List Fact}(h0:dC P h t (.map b) k ok=some (v,fs)):∀f∈fs,f.blk=b:=by
 have he:∀es gs,d8 h (.map b)=some (es,gs)->∀f∈gs,f.blk=b:=λes gs e f hf=>by
  simp only[d8]at e;split at e
  .cases e;rw[List.mem_singleton.1 hf];rfl
  .cases e
 unfold dC at h0;split at h0
 .rename_i kt et es gs kv ht hes hkv;have:=he _ _ hes;split at h0
  .cases h0;exact this
  .split at h0
   .cases h0;exact this
   .cases h0
  .cases h0
 .cases h0
theorem LD{P:Program}{Γ:Glob}{key:RK}{ρ0:Va}{d:Nat}{v:SV}{fs:List Fact}(hs':key.says P Γ ρ0 h (v,fs))(hag:∀n,key.dkOf=.on n->ρ.n n=ρ0.n n)(hr:HR ρ ds hs):HR ρ (bif key.noFacts P then ds else⟨d,key.dkOf⟩::ds) (EL d fs hs):=by
 cases hk:key.noFacts P with
 |true=>
  have:fs=[]:=uM hk hs';subst this;exact hr
 |false=>
  rw[bg];unfold RK.dkOf at hag⊢;split
  .rename_i t n k ok;exact O4 (λf hf=>by rw[hag n rfl];exact Jh hs' f hf) hr
  .exact ME hr
theorem uc{P:Program}{Γ:Glob}{ev:Operand->SV}{op op':Op}{v:SV}{ob:AObj}{T':T AObj}(e1:effect P Γ h ev op=some [(v,⟨h.objs.set h.next ob,h.next+1⟩)])(hl:m5 op=true)(hns:∀ty a x,op'≠.store ty a x)(hop:op=op'):quiet P Γ ⟨T',h.next⟩ ev op=none/\fF P ⟨T',h.next⟩ ev op=some (v,h.next,ob,h.next+1):=by
 subst hop;have fin:∀{a:SV} {x:AObj},some [(a,(⟨h.objs.set h.next x,h.next+1⟩:Hp))]=some [(v,⟨h.objs.set h.next ob,h.next+1⟩)]->a=v/\x=ob:=λ{a x} e=>by
  simp only[a7,List.cons.injEq,ap,Hp.mk.injEq,and_true]at e;refine⟨e.1,?_⟩;have:=congrArg (λt=>t.get h.next) e.2;simp only[T.get_set,if_true,a7]at this;exact this
 unfold m5 at hl;split at hl
 .rename_i e;refine⟨rfl,?_⟩;simp only[effect]at e1;cases hz:dB P e with
  |none=>rw[hz]at e1;cases e1
  |some z=>
   rw[hz]at e1;obtain⟨rfl,rfl⟩:=fin e1;simp only[fF,hz,af];rfl
 .rename_i e x;refine⟨rfl,?_⟩;obtain⟨rfl,rfl⟩:=fin e1;rfl
 .rename_i t x;refine⟨rfl,?_⟩;cases x with
  |none=>
   simp only[effect]at e1;split at e1
   .rename_i kt vt ht;obtain⟨rfl,rfl⟩:=fin e1;simp only[fF,ht];rfl
   .cases e1
  |some x=>
   simp only[effect]at e1;split at e1
   .rename_i kt vt kk zz ht hx;obtain⟨rfl,rfl⟩:=fin e1;simp only[fF,ht,hx];rfl
   .cases e1
 .exact absurd rfl (hns _ _ _)
 .cases hl
theorem wA{ty:TypeId}{a x:Operand}{S1:Sym}{n off:Nat}{h':Hp}(ho:OkC C ρ Z S tm h)(hr:HR ρ ds hs)(hk:dM ds S.mem=true)(h1:i7 C.P {S with mem:=qv i ds S.mem} (.store ty a x)=some S1)(h3:opd S.f a=some (.ptr n off))(e1:effect C.P C.Γ h (Fr.ev ⟨tm,C.nt,C.ms⟩) (.store ty a x)=some [(.lit undef,h')]):
 ∃ob,fF C.P ⟨hide i hs h.objs,h.next⟩ (Fr.ev ⟨tm,C.nt,C.ms⟩) (.store ty a x)=some (.lit undef,ρ.n n,ob,h.next)/\h'=⟨h.objs.set (ρ.n n) ob,h.next⟩/\mB n S.mem=true:=by
 have _:=(inferInstance:Mute C.Γ);simp only[i7,h3]at h1;cases hv:opd S.f x with
 |none=>rw[hv]at h1;cases h1
 |some v=>
  rw[hv]at h1;simp only at h1;cases hg:getBlk n (qv i ds S.mem)with
  |none=>rw[hg]at h1;cases h1
  |some ce=>
   obtain⟨cs,e⟩:=ce;obtain⟨g1,g2⟩:=fT hg;have hhas:=qL g1;have hget:=(ho.blk g1).1;have hvis:=Ck ho hr hk hhas g2;have ea:Fr.ev ⟨tm,C.nt,C.ms⟩ a=.ptr (ρ.n n) off:=ho.f.opd h3;simp only[effect,dA,ea,mi]at e1;simp only[fF,ea];cases hs2:bI C.P ty with
   |none=>rw[hs2]at e1;cases e1
   |some m=>
    rw[hs2]at e1;simp only at e1;cases hb:Nat.beq (Fr.ev ⟨tm,C.nt,C.ms⟩ x).cells.length m with
    |false=>rw[hb]at e1;cases e1
    |true=>
     rw[hb,bf,hget]at e1;simp only at e1;simp only[hb,bf,hvis.trans hget];cases hsp:cH (svL ρ cs) off (Fr.ev ⟨tm,C.nt,C.ms⟩ x).cells with
     |none=>rw[hsp]at e1;cases e1
     |some l'=>
      rw[hsp]at e1;simp only[af,a7,List.cons.injEq,ap,and_true,true_and]at e1;exact⟨.cells l' e,rfl,e1.symm,hhas⟩
theorem xe(hr:HR ρ ds hs){b:Nat}:ds.all (λe=>Nat.testBit e.desc i)=true->cE i b hs=true/\∀t,hide i hs t=t:=by
 induction hr with
 |nil=>intro _;exact⟨rfl,λ_=>rfl⟩
 |no _ _ ih=>intro h;simp only[al,a8]at h;exact ih h.2
 |any0 _ ih=>intro h;simp only[al,a8]at h;exact ih h.2
 |on0 _ ih=>intro h;simp only[al,a8]at h;exact ih h.2
 |li _ ih=>
  intro h;simp only[al,a8]at h;simp only[cE,hide,h.1,bf,aI];exact ih h.2
 |any _ ih=>
  intro h;simp only[al,a8]at h;simp only[cE,hide,h.1,bf,aI];exact ih h.2
 |on hf _ ih=>
  intro h;simp only[al,a8]at h;simp only[cE,hide,h.1,bf,aI];exact ih h.2
 |chg _ ih=>
  intro h;simp only[al,a8]at h;simp only[cE,hide,h.1,bf,aI];exact ih h.2
 |last _ ih=>
  intro h;simp only[al,a8]at h;simp only[cE,hide,h.1,bf,aI];exact ih h.2
theorem wq{P:Program}{ty:TypeId}{ev:Operand->SV}{a x:Operand}{h':Hp}(e:dA P h ty (ev a) (ev x)=some h'):∃b ob,fF P h ev (.store ty a x)=some (.lit undef,b,ob,h.next)/\h'=⟨h.objs.set b ob,h.next⟩:=by
 cases hs:bI P ty with
 |none=>simp only[dA,hs]at e;cases e
 |some n=>
  cases ha:ev a with
  |ptr b off=>
   simp only[dA,hs,ha]at e;simp only[fF,hs,ha];cases hb:Nat.beq (ev x).cells.length n with
   |false=>rw[hb]at e;cases e
   |true=>
    rw[hb,bf]at e;rw[bf];cases hg:h.objs.get b with
    |none=>rw[hg]at e;cases e
    |some o=>
     rw[hg]at e;cases o with
     |cells l e'=>
      simp only at e⊢;cases hsp:cH l off (ev x).cells with
      |none=>rw[hsp]at e;cases e
      |some l'=>
       rw[hsp]at e;simp only[af,a7]at e;exact⟨_,_,rfl,e.symm⟩
     |row l e' k cv s=>
      simp only at e⊢;cases hsp:cH l off (ev x).cells with
      |none=>rw[hsp]at e;cases e
      |some l'=>
       rw[hsp]at e;simp only[af,a7]at e;exact⟨_,_,rfl,e.symm⟩
     |_=>cases e
  |_=>simp only[dA,hs,ha]at e;cases e
theorem yH{go:List DH->Sym->Ct->Bool}(hm:Nat.testBit mask i=false)(hdp:Nat.beq (Nat.land (depsOf o) mask) (depsOf o)=true)(hw:cL ops ⟨tm,C.nt,C.ms⟩ o=some true)(hl:m5 o.op=true)(hq:z6 C.P C.nt ops o i ds S t go=true)(hk:dM ds S.mem=true)(hd:den C t S.c ρ Z)(ho:OkC C ρ Z S tm h)(hr:HR ρ ds hs)
 (hg:∀ds' S' t' ρ' tm' h' hs',go ds' S' t'=true->den C t' S'.c ρ' Z->OkC C ρ' Z S' tm' h'->HR ρ' ds' hs'->mP C.P C.Γ ops r (i+1) (mask|||2^i) k hs' ⟨tm',C.nt,C.ms⟩ h' Φ)
 (hgZ:∀ds' S' t' ρ' Z' tm' h' hs',go ds' S' t'=true->den C t' S'.c ρ' Z'->OkC C ρ' Z' S' tm' h'->HR ρ' ds' hs'->mP C.P C.Γ ops r (i+1) (mask|||2^i) k hs' ⟨tm',C.nt,C.ms⟩ h' Φ):mP C.P C.Γ ops (o::r) i mask k hs ⟨tm,C.nt,C.ms⟩ h Φ:=by
 have tk:∀{v:SV} {b nx:Nat} {ob:AObj} {fr2:Fr},quiet C.P C.Γ ⟨hide i hs h.objs,h.next⟩ (Fr.ev ⟨tm,C.nt,C.ms⟩) o.op=none->fF C.P ⟨hide i hs h.objs,h.next⟩ (Fr.ev ⟨tm,C.nt,C.ms⟩) o.op=some (v,b,ob,nx)->cE i b hs=true->Fr.put ⟨tm,C.nt,C.ms⟩ o.dst v=some fr2->
  ct C.P C.Γ ops (o::r) i mask hs ⟨tm,C.nt,C.ms⟩ h=ct C.P C.Γ ops r (i+1) (mask|||2^i) (⟨descOf i ops.toList 0 0,[],some (b,ob)⟩::hs) fr2 ⟨h.objs.set b ob,nx⟩:=λh1 h2 h3 h4=>by
  rw[ct,hm,bg,hdp,bf,hw];simp only[fh h1,h2,h3,bf,h4]
 have mk:(∀ty a x,o.op≠.store ty a x)->ol C.P C.nt ops o i ds S t go=true->mP C.P C.Γ ops (o::r) i mask k hs ⟨tm,C.nt,C.ms⟩ h Φ:=λhns hq=>by
  cases t with
  |new t'=>
   cases hn:yq C.P S o.op with
   |none=>simp only[ol,hn]at hq;cases hq
   |some x=>
    obtain⟨v,m⟩:=x;simp only[ol,hn,a8]at hq;obtain⟨q1,q2,q3,q4⟩:=hq;obtain⟨ob,e1,e2,e3,e4⟩:=nP hn q1 ho;have hnx:(ρ.ext S.c {n:=[h.next]}).n S.c.n=h.next:=ext_n;obtain⟨tm',S2,p1,p2,p3,p4⟩:=cB q4 (Aa q1 ho e2);have hq0:quiet C.P C.Γ ⟨hide i hs h.objs,h.next⟩ (Fr.ev ⟨tm,C.nt,C.ms⟩) o.op=none/\fF C.P ⟨hide i hs h.objs,h.next⟩ (Fr.ev ⟨tm,C.nt,C.ms⟩) o.op=some (v.sv (ρ.ext S.c {n:=[h.next]}),h.next,ob,h.next+1):=uc e1 hl hns rfl;refine mb (tk hq0.1 hq0.2 (oT ho (.inl rfl) hr hk q3) p1) (hg _ _ _ _ _ _ _ p2 (by rw[p4];exact hd h.next) p3 ?_);have:=HR.chg (d:=descOf i ops.toList 0 0) (n:=S.c.n) (ob:=ob) (jN (cw S.c ρ {n:=[h.next]}) hr q2);rw[hnx]at this;exact this
  |newL ns kk t'=>
   cases hn:yq C.P S o.op with
   |none=>simp only[ol,hn]at hq;cases hq
   |some x=>
    obtain⟨v,m⟩:=x;simp only[ol,hn]at hq;cases hkm:eg kk S.mem with
    |none=>rw[hkm]at hq;cases hq
    |some rest=>
    rw[hkm]at hq;simp only[a8]at hq;have hlt:=hd.1 _ h (fO hkm ho);obtain⟨q1,q2,q3,q4⟩:=hq;obtain⟨ob,e1,e2,e3,e4⟩:=nP hn q1 ho;have hnx:(ρ.ext S.c {n:=[h.next]}).n S.c.n=h.next:=ext_n;obtain⟨tm',S2,p1,p2,p3,p4⟩:=cB q4 (Aa q1 ho e2);have hq0:quiet C.P C.Γ ⟨hide i hs h.objs,h.next⟩ (Fr.ev ⟨tm,C.nt,C.ms⟩) o.op=none/\fF C.P ⟨hide i hs h.objs,h.next⟩ (Fr.ev ⟨tm,C.nt,C.ms⟩) o.op=some (v.sv (ρ.ext S.c {n:=[h.next]}),h.next,ob,h.next+1):=uc e1 hl hns rfl;refine mb (tk hq0.1 hq0.2 (u3 ho rfl hlt hr hk q3) p1) (hg _ _ _ _ _ _ _ p2 (by rw[p4];exact hd.2 h.next) p3 ?_);have:=HR.chg (d:=descOf i ops.toList 0 0) (n:=S.c.n) (ob:=ob) (jN (cw S.c ρ {n:=[h.next]}) hr q2);rw[hnx]at this;exact this
  |_=>cases hq
 unfold z6 at hq;split at hq
 .rename_i ty a x hop;split at hq
  .rename_i S1 S' n off h1 h2 h3;simp only[a8]at hq;obtain⟨q1,q2⟩:=hq;have h2':i7 C.P S o.op=some S':=by rw[hop];exact h2
   obtain⟨h',e1,e2,e3,e4,e5,e6⟩:=pf h2' ho;obtain⟨tm',S2,p1,p2,p3,p4⟩:=cB q2 e3;obtain⟨ob,l1,l2,l3⟩:=wA (i:=i) ho hr hk h1 h3 (by rw[<-hop];exact e1);refine mb (tk (by rw[hop];rfl) (by rw[hop];exact l1) (oT ho (.inr ⟨l3,rfl⟩) hr hk q1) p1) ?_;rw[<-l2];exact hg _ _ _ _ _ _ _ p2 (by rw[p4,e4];exact hd) p3 (.chg hr)
  .unfold KI at hq;split at hq
   .rename_i key kk nv nm d t';split at hq
    .rename_i key' rest hc hkm;simp only[a8]at hq;obtain⟨q0,q1,q2,q3,q4⟩:=hq;obtain⟨outs,h1,h2⟩:=hd _ h (fO hkm ho);obtain⟨c1,c2,c3⟩:=rX (P:=C.P) (Γ:=C.Γ) (h:=h) ho.f hc ((EK.same_out q2).trans h1);obtain⟨w1,w2⟩:=xe (b:=0) hr q0;rw[hop]at c1 c2;have c1:mi (dA C.P h ty (Fr.ev ⟨tm,C.nt,C.ms⟩ a) (Fr.ev ⟨tm,C.nt,C.ms⟩ x))=some outs:=c1;cases hse:dA C.P h ty (Fr.ev ⟨tm,C.nt,C.ms⟩ a) (Fr.ev ⟨tm,C.nt,C.ms⟩ x)with
     |none=>rw[hse]at c1;cases c1
     |some h'=>
      rw[hse]at c1;have c1:outs=[(.lit undef,h')]:=(ab c1).symm;subst c1;obtain⟨b,ob,l1,l2⟩:=wq hse;obtain⟨_,Z',e,hz,hv,hst,hd'⟩:=h2 _ (List.mem_singleton.2 rfl);obtain⟨tm',S2,p1,p2,p3,p4⟩:=cB q4 (Ok.next q3 hkm ho hz hst);have hh:(⟨hide i hs h.objs,h.next⟩:Hp)=h:=by rw[w2]
      rw[<-hv]at p1;refine mb (tk (by rw[hh,hop];exact c2) (by rw[hh,hop];exact l1) (xe (b:=b) hr q0).1 p1) ?_;rw[<-l2];exact hgZ _ _ _ _ Z' _ _ _ p2 (by rw[p4];exact hd') p3 (.last (jN (cw S.c ρ e) hr q1))
    .cases hq
   .cases hq
  .cases hq
 .rename_i hns;exact mk (λty a x e=>hns ty a x e) hq
where
 ext_n {ρ:Va} {S:Sym} {h:Hp}:(ρ.ext S.c {n:=[h.next]}).n S.c.n=h.next:=by
  show fN _ _ _ _ _=_;unfold fN;rw[show Nat.blt S.c.n S.c.n=false from by
   cases e:Nat.blt S.c.n S.c.n with
   |false=>rfl
   |true=>exact absurd (ca e) (Nat.lt_irrefl _)]
  rw[bg,Nat.sub_self];rfl
theorem rx(hself:Snd C self){l:List Oper}(hq:p9 C.P C.nt self ops l i mask k ds K S t=true)(hd:den C t S.c ρ Z)(ho:OkC C ρ Z S tm h)(hK:∃c,kat C.c0 (K.map (·.1))=some (K,c)):xQ C ρ K tm h (.take ops l i mask k ds):=by
 intro hs hr;unfold p9 at hq;split at hq
 .split at hq
  .rename_i hrd;simp only[a8]at hq;refine⟨(mask,hs,⟨tm,C.nt,C.ms⟩,h),rfl,Ends.one (λn=>?_) (hself _ _ _ _ hq.2 ρ Z tm h hd ho hK (.lit undef))⟩;simp only[hrd,hq.1,bf]
  .rename_i j o hrd;split at hq
   .cases hq
   .rename_i k';unfold Hm at hq;simp only[a8]at hq;obtain⟨q2,q3,q4⟩:=hq;split at q4
    .rename_i hw;cases q1:fM j ds with
     |true=>
      rw[q1,bf]at q4;have hide0:(⟨hide j hs h.objs,h.next⟩:Hp)=h:=by rw[uo hr q1]
      refine⟨(mask,hs,⟨tm,C.nt,C.ms⟩,h),rfl,DC hrd (iX hw ho) ?_⟩;rw[hide0];refine(iR q4 hd ho).2.mono ?_;rintro v h' ⟨S',t',ρ',Z',tm',p1,p2,p3,p4,p5,p6⟩;simp only[a8]at p2;exact⟨h'.objs,_,xS hr q1,p1,yC p5 p4 hs hr q3 p2.1,l8 (hself _ _ _ _ p2.2 ρ' Z' tm' h' p3 p4 hK _ (jN p5 (JL hr) (all_filter q3)))⟩
     |false=>
      rw[q1,bg]at q4;cases q4
    .cases q4
  .cases hq
 .rename_i o r;cases hm:Nat.testBit mask i with
  |true=>
   rw[hm,bf]at hq;exact mb (D9 hm rfl) (hself _ _ _ _ hq ρ Z tm h hd ho hK hs hr)
  |false=>
   rw[hm,bg]at hq;cases hdp:Nat.beq (Nat.land (depsOf o) mask) (depsOf o)with
   |false=>
    rw[hdp,bg]at hq;exact mb (DY hm hdp rfl) (hself _ _ _ _ hq ρ Z tm h hd ho hK hs hr)
   |true=>
    rw[hdp,bf]at hq;have frk:∀{e:X},kr e (λS' t'=>self (.take ops (o::r) i mask k ds) K S' t') S t=true->mP C.P C.Γ ops (o::r) i mask k hs ⟨tm,C.nt,C.ms⟩ h (aft C.P C.Γ C.ro C.Φ K):=λhq=>mo hq hd ho λb t' h1 h2 h3=>hself _ _ _ _ h1 ρ Z tm h h2 h3 hK hs hr;split at hq
    .cases hq
    .exact frk hq
    .rename_i hw;obtain⟨tm',S2,p1,p2,p3,p4⟩:=cB hq ho;exact mb (yL hm hdp (iX hw ho) p1) (hself _ _ _ _ p2 ρ Z tm' h (by rw[p4];exact hd) p3 hK hs hr)
    .rename_i hw;have hw:=iX hw ho;simp only[a8]at hq;obtain⟨hk,hq⟩:=hq;split at hq
     .rename_i v vc li hv;obtain⟨t',h1,h2,h3⟩:=oS hq hd;obtain⟨tm',S2,p1,p2,p3,p4⟩:=cB h1 ho;exact mb (wM hm hdp hw (xk (S:={S.toSy with mem:=qv i ds S.mem}) ho.f (IB ho hr hk) ho.asm hv h3) p1) (hself _ _ _ _ p2 ρ Z tm' h (by rw[p4];exact h2) p3 hK _ (LO hr))
     .exact frk hq
     .split at hq
      .rename_i key' key km nv d t' hrow;obtain⟨hkey,rfl⟩:=wI hrow;split at hq
       .rename_i rest hmem;simp only[a8]at hq;obtain⟨q1,q2,q3,q4,q5⟩:=hq;have hide0:(⟨hide i hs h.objs,h.next⟩:Hp)=h:=by rw[uo hr q4]
        obtain⟨e,fs,h1,h2⟩:=hd _ h (fO hmem ho);have hok:=Ok.ext (mem:=S.mem) (d:=d) ho q2 (cw S.c ρ e) (Sub.refl Z) (by
         simp only[Sym.sc,a8]at q2;rw[iH (cw S.c ρ e) q2.2.1];exact ho.st)
        obtain⟨tm',S2,p1,p2,p3,p4⟩:=cB q5 hok;exact mb (wM hm hdp hw (by rw[hide0];exact zo ho.f hkey (RK.same_says q1 h1)) p1) (hself _ _ _ _ p2 _ Z tm' h (by rw[p4];exact h2) p3 hK _ (LD h1 (λn hn=>by rw[hn]at q3;simp only[al,a8]at q3;exact(cw S.c ρ e).n n (ca q3.1)) (jN (cw S.c ρ e) hr (by simp only[al,a8]at q3;exact q3.2))))
       .cases hq
      .cases hl:m5 o.op with
       |true=>
        rw[hl,bf]at hq;exact yH hm hdp hw hl hq hk hd ho hr (λds' S' t' ρ' tm' h' hs' a b c e=>hself _ _ _ _ a ρ' Z tm' h' b c hK hs' e) λds' S' t' ρ' Z' tm' h' hs' a b c e=>hself _ _ _ _ a ρ' Z' tm' h' b c hK hs' e
       |false=>
        rw[hl,bg]at hq;simp only[a8]at hq;exact mb (J4 hm hdp hw hq.1) (hself _ _ _ _ hq.2 ρ Z tm h hd ho hK hs hr)
where
 all_filter {j:Nat} {c:Cnt} (ha:ds.all (oh c)=true):(kX j ds).all (oh c)=true:=aE.2 λd hd=>aE.1 ha d (List.mem_filter.1 hd).1
end
section
variable {C:Cx}[Mute C.Γ]{self:pw}
theorem r9{c:Cnt}{ρ ρ':Va}{K:Stk}{tm:T SV}{h:Hp}{m:Mode}(ha:Agree c ρ ρ')(hm:zy c m=true)(hg:xQ C ρ' K tm h m):xQ C ρ K tm h m:=by
 have _:=(inferInstance:Mute C.Γ);cases m with
 |run c=>exact hg
 |pop e=>exact hg
 |ops o l=>exact hg
 |take o l i mask k ds=>exact λhs hr=>hg hs (jN ha hr hm)
theorem kT{fn:Option Func}(hroot:∀f,fn=some f->C.Φ=λo=>∃r,g8 C.P C.Γ f o=some [r]/\C.Post r.v r.hp)(hs:Snd C self):Snd C (tH C.P fn C.nt self):=by
 intro m K S t hq ρ Z tm h hd ho hK;unfold tH at hq;cases m with
 |run c=>
  simp only at hq;split at hq
  .rename_i p fr mem;cases hb:kq (K.map (·.1)) p with
   |true=>
    rw[hb,bf]at hq;simp only[a8]at hq;exact hd K c (by rw[<-jM hb];exact hK) tm h (mD ho.f hq.1) (qR hq.2 ho.st)
   |false=>
    rw[hb,bg]at hq;exact l9 hs hq hd ho hK
  .exact l9 hs hq hd ho hK
 |pop e=>exact sj hroot hs hq hd ho hK
 |ops ops l=>exact sB hs hq hd ho hK
 |take ops l i mask k ds=>exact rx hs hq hd ho hK
theorem yk{fn:Option Func}(hroot:∀f,fn=some f->C.Φ=λo=>∃r,g8 C.P C.Γ f o=some [r]/\C.Post r.v r.hp)(hs:Snd C self):Snd C (HX C.P fn C.nt self):=by
 intro m K S t hq ρ Z tm h hd ho hK;unfold HX at hq;split at hq
 .rename_i k nm d t';cases hl:later C.P C.nt m K S t' with
  |true=>
   rw[hl,bf]at hq;exact kT hroot hs m K S _ hq ρ Z tm h hd ho hK
  |false=>
   rw[hl,bg]at hq;split at hq
   .rename_i rest hk;simp only[a8]at hq;obtain⟨Z',e,hz,hst,hd'⟩:=hd _ h (fO hk ho);exact r9 (cw _ _ e) hq.2.1 (hs _ _ _ _ hq.2.2 _ Z' tm h hd' (Ok.next hq.1 hk ho hz hst) hK)
   .cases hq
 .rename_i i cs d t';simp only[a8]at hq;obtain⟨e,hp,hd'⟩:=hd;have hok:=Ok.ext (mem:=S.mem) (d:=d) ho hq.1 (cw S.c ρ e) (Sub.refl Z) (by
   have q2:=hq.1;simp only[Sym.sc,a8]at q2;rw[iH (cw S.c ρ e) q2.2.1];exact ho.st)
  refine r9 (cw _ _ e) hq.2.1 (hs _ _ _ _ hq.2.2 _ Z tm h hd' ⟨hok.f,hok.st,hok.asm,λx hx=>?_,hok.mks⟩ hK);rcases aD.1 hx with rfl|hx
  .exact hp
  .exact hok.win x hx
 .exact(show False from hd).elim
 .rename_i b t1 t2;cases hm:tH C.P fn C.nt self m K S (.fork b t1 t2)with
  |true=>exact kT hroot hs m K S _ hm ρ Z tm h hd ho hK
  |false=>
   rw[hm,bg]at hq;simp only[a8]at hq;have ok:∀v,(b.den ρ).b=v->OkC C ρ Z {S with asm:=(b,v)::S.asm} tm h:=λv hv=>⟨ho.f,ho.st,λx hx=>by
    rcases aD.1 hx with rfl|hx
    .exact hv
    .exact ho.asm x hx,ho.win,ho.mks⟩
   by_cases hp:b.prop ρ
   .exact hs m K _ t1 hq.1 ρ Z tm h (hd.1 hp) (ok _ ((b.prop_iff ρ).2 hp)) hK
   .exact hs m K _ t2 hq.2 ρ Z tm h (hd.2 hp) (ok _ ((b.prop_false ρ).2 hp)) hK
 .exact kT hroot hs m K S _ hq ρ Z tm h hd ho hK
theorem iK{fn:Option Func}(hroot:∀f,fn=some f->C.Φ=λo=>∃r,g8 C.P C.Γ f o=some [r]/\C.Post r.v r.hp):∀n,Snd C (chk C.P fn C.nt n)
 |0=>λ_ _ _ _ hq=>by cases hq
 |n+1=>yk hroot (iK hroot n)
end
theorem Lc{ρ:Va}{args:List XV}{n:Nat}{ms:List Nat}:FM ρ (T.ofList args 0 .leaf) ⟨T.ofList (svL ρ args) 0 .leaf,n,ms⟩:=λk v hk=>by
 rw[T.get_ofList]at hk;split at hk
 .rename_i h;simp only[Fr.ev,T.get_ofList,gS,h,if_true];rw[lD,hk];rfl
 .cases hk
def fnC(P:Program)(Γ:Glob)(f:Func)(n:Nat)(ms:List Nat)(l:List Asrt)(Post:SV->Hp->Prop):Cx where
 P:=P
 Γ:=Γ
 c0:=fg f
 ro:=none
 nt:=Nat.max f.ntmps n
 ms:=ms
 l:=l
 Φ:=λo=>∃r,g8 P Γ f o=some [r]/\Post r.v r.hp
 Post:=Post
def sy(args:List XV)(mem:List MI)(c:Cnt):Sym:={f:=T.ofList args 0 .leaf,mem:=mem,c:=c}
section
variable {P:Program}{Γ:Glob}[Mute Γ]{f:FuncId}{Z h:Hp}{l:List Asrt}{Post:SV->Hp->Prop}
theorem gf(fn:Func)(hf:P.funcs[f]? =some fn)(hb:fn.body.isSome=true)(args:List XV)(mem:List MI)(c:Cnt)(ρ:Va)(t:Ct)(n:Nat)(hq:chk P (some fn) (Nat.max fn.ntmps args.length) n (.run (fg fn)) [] (sy args mem c) t=true)(hs:St Z (cR ρ mem++l) h)(hm:theMem f (svL ρ args) h=none)(hd:den (fnC P Γ fn args.length [] l Post) t c ρ Z):
 Runs P Γ (.call f (svL ρ args) h) λo=>Post o.v o.hp:=by
 obtain⟨body,hbody⟩:=Option.isSome_iff_exists.1 hb;have hbo:fg fn=body:=by simp only[fg,hbody]
 refine eA hf hbody ?_ hm;have hok:Ok Γ ρ Z l (sy args mem c) [] ⟨T.ofList (svL ρ args) 0 .leaf,Nat.max fn.ntmps args.length,[]⟩ h:=⟨Lc,hs,λx hx=>(by cases hx),λx hx=>(by cases hx),rfl⟩
 haveI:Mute (fnC P Γ fn args.length [] l Post).Γ:= ‹Mute Γ›
 have:=iK (C:=fnC P Γ fn args.length [] l Post) (fn:=some fn) (λf' hf'=>by obtain rfl:=ab hf';rfl) n (.run (fg fn)) [] _ t hq ρ Z _ h hd hok rfl;have this:Runs P Γ (.code (fg fn) none ⟨T.ofList (svL ρ args) 0 .leaf,Nat.max fn.ntmps args.length,[]⟩ h) (λo=>∃r,g8 P Γ fn o=some [r]/\Post r.v r.hp):=this;rw[gS,<-hbo];exact this
end
def kg(l:List (Nat×XV)):T XV:=l.foldr (λx t=>t.set x.1 x.2) .leaf
theorem gD{ρ:Va}{fr:Fr}:∀{l:List (Nat×XV)},(∀x∈l,fr.ev (.tmp x.1)=x.2.sv ρ)->FM ρ (kg l) fr
 |[],_,k,v,hk=>by cases hk
 |(i,w)::l,h,k,v,hk=>by
  have hk:((kg l).set i w).get k=some v:=hk;rw[T.get_set]at hk;by_cases e:k=i
  .rw[bi e]at hk;rw[e,<-ab hk];exact h _ (ak ..)
  .rw[bh e]at hk;exact gD (λx hx=>h x (am _ hx)) k v hk
def Ky(fr:List (Nat×XV))(mem:List MI)(win:List (Nat×List XV))(c:Cnt):Sym:={f:=kg fr,mem:=mem,win:=win,c:=c}
def KD(P:Program)(fn:Func)(nt n:Nat)(p:List Nat)(S:Sym)(t:Ct):Bool:=match kat (fg fn) p with
 |some (K,c)=>chk P (some fn) nt n (.run c) K S t
 |none=>false
def BJ(P:Program)(fn:Func)(nt n:Nat)(p:List Nat)(S:Sym)(t:Ct):Bool:=match kat (fg fn) p with
 |some (K,.loop b)=>chk P (some fn) nt n (.run b) ((0,.loop b)::K) S t
 |_=>false
theorem qQ{c0:Code}:∀{p:List Nat} {K:Stk} {c:Code},kat c0 p=some (K,c)->kat c0 (K.map (·.1))=some (K,c):=by
 intro p
 induction p with
 |nil=>
  intro K c hk;simp only[kat,a7,ap]at hk;obtain⟨rfl,rfl⟩:=hk;rfl
 |cons d p ih=>
  intro K c hk;simp only[kat]at hk;split at hk
  .rename_i K' c' hk';rw[aa]at hk;obtain⟨x,hx,hk⟩:=hk;obtain⟨rfl,rfl⟩:=Prod.mk.inj hk;simp only[ax,kat,ih hk',hx,af]
  .cases hk
section
variable {P:Program}{Γ:Glob}[Mute Γ]{fn:Func}{k:Nat}{l:List Asrt}{Post:SV->Hp->Prop}{Z:Hp}{ρ:Va}
theorem yd(p:List Nat)(fr:List (Nat×XV))(mem:List MI)(win:List (Nat×List XV))(c:Cnt)(t:Ct)(n:Nat)(hq:KD P fn (Nat.max fn.ntmps k) n p (Ky fr mem win c) t=true)(hw:∀x∈win,PtrTo Γ Z (ρ.r x.1) (svL ρ x.2))(hd:den (fnC P Γ fn k [] l Post) t c ρ Z):den (fnC P Γ fn k [] l Post) (.stop p fr mem) c ρ Z:=by
 intro K c' hk tm h hf hs
 haveI:Mute (fnC P Γ fn k [] l Post).Γ:= ‹Mute Γ›
 unfold KD at hq;rw[show kat (fg fn) p=some (K,c')from hk]at hq;have hkk:=qQ hk;exact iK (C:=fnC P Γ fn k [] l Post) (fn:=some fn) (λf' hf'=>by obtain rfl:=ab hf';rfl) n (.run c') K _ t hq ρ Z tm h hd ⟨gD hf,hs,λx hx=>(by cases hx),hw,rfl⟩ hkk
theorem cZ(p:List Nat)(fr:List (Nat×XV))(mem:List MI)(win:List (Nat×List XV))(c:Cnt)(t:Ct)(n:Nat)(hq:BJ P fn (Nat.max fn.ntmps k) n p (Ky fr mem win c) t=true)(hw:∀x∈win,PtrTo Γ Z (ρ.r x.1) (svL ρ x.2))(hd:den (fnC P Γ fn k [] l Post) t c ρ Z):den (fnC P Γ fn k [] l Post) (.stop p fr mem) c ρ Z:=by
 intro K c' hk tm h hf hs
 haveI:Mute (fnC P Γ fn k [] l Post).Γ:= ‹Mute Γ›
 unfold BJ at hq;rw[show kat (fg fn) p=some (K,c')from hk]at hq;have hkk:=qQ hk;cases c' with
 |loop b=>
  exact gg (iK (C:=fnC P Γ fn k [] l Post) (fn:=some fn) (λf' hf'=>by obtain rfl:=ab hf';rfl) n (.run b) ((0,.loop b)::K) _ t hq ρ Z tm h hd ⟨gD hf,hs,λx hx=>(by cases hx),hw,rfl⟩ (KOk.down (C:=fnC P Γ fn k [] l Post) (c':=b) (d:=0) hkk rfl))
 |_=>cases hq
end
theorem bu{C:Cx}{c c':Cnt}{ρ ρ':Va}{Z:Hp}{p:List Nat}{fr fr':List (Nat×XV)}{mem mem':List MI}(h:den C (.stop p fr' mem') c' ρ' Z)(hf:fr'.map (λx=>(x.1,x.2.sv ρ'))=fr.map λx=>(x.1,x.2.sv ρ))(hm:cR ρ' mem'=cR ρ mem):den C (.stop p fr mem) c ρ Z:=by
 intro K c0 hk tm h' hs hst;refine h K c0 hk tm h' (λx hx=>?_) (by rw[hm];exact hst);have:=List.mem_map_of_mem (f:=λx:Nat×XV=>(x.1,x.2.sv ρ')) hx;rw[hf]at this;obtain⟨y,hy,he⟩:=List.mem_map.1 this;obtain⟨e1,e2⟩:=Prod.mk.inj he;rw[<-e1,<-e2];exact hs y hy
abbrev I(e:X):XV:=.int .i64 e
abbrev iV(z:Int):SV:=.lit (.int .i64 z)
abbrev yV(z:Int):SV:=.lit (.int .u8 z)
abbrev bV(b:Bool):SV:=.lit (.bool b)
abbrev sV(l:bn):SV:=.lit (.string ⟨⟨l⟩⟩)
def jd(Z:Hp)(l:List Asrt)(v:SV)(r:SV)(h:Hp):Prop:=r=v/\St Z l h
def Ret(Z:Hp)(l:List Asrt)(v:SV)(o:Out):Prop:=o.v=v/\St Z l o.hp
section
variable {C:Cx}{c d:Cnt}{ρ:Va}{Z:Hp}{t e:Ct}{b:X}
theorem bE(h:b.prop ρ)(k:den C t c ρ Z):den C (.vc b t) c ρ Z:=⟨h,k⟩
theorem JH(h:False):den C .no c ρ Z:=h
theorem bX{v:XV}{mem:List MI}(h:∀h,St Z (cR ρ mem++C.l) h->C.Post (v.sv ρ) h):den C (.ret v mem) c ρ Z:=h
theorem AY{ns:List Nat}{k:List MI}(h0:∀l h,St Z (cR ρ k++l) h->∀n∈ns,ρ.n n<h.next)(h:∀b,den C t c.n1 (ρ.ext c {n:=[b]}) Z):den C (.newL ns k t) c ρ Z:=⟨h0,h⟩
theorem bA(h:∀b,den C t c.n1 (ρ.ext c {n:=[b]}) Z):den C (.new t) c ρ Z:=h
theorem cU{f:Nat}{args:List XV}{nv:XV}(e:Vals)(h:∀l h,St Z l h->Runs C.P C.Γ (.call f (svL ρ args) h) (Ret Z l (nv.sv (ρ.ext c e))))(k:den C t d (ρ.ext c e) Z):den C (.call f args [] nv [] d t) c ρ Z:=λl h' hs=>(h l h' hs).mono λ_ ho=>⟨Z,e,Sub.refl Z,ho.1,ho.2,k⟩
theorem iQ{key:RK}{nv:XV}(e:Vals)(h:∀h,key.says C.P C.Γ ρ h (nv.sv (ρ.ext c e),[]))(k:den C t d (ρ.ext c e) Z):den C (.row key [] nv d t) c ρ Z:=λ_ h' _=>⟨e,[],h h',k⟩
theorem _root_.Go.Proofs.YtbhokokpplmigaaGreatDoor.Sx.St.end {Z h:Hp}{l m:List Asrt}(s:St Z (m++l) h):St Z l h:=s.drop
end
def jx(a b:Asrt):Asrt:=⟨λZ D h=>∃E F:Nat->Prop,(∀x,D x↔E x\/F x)/\(∀x,E x->¬F x)/\a.p Z E h/\b.p Z F h,λhk ⟨E,F,h1,h2,h3,h4⟩=>⟨E,F,h1,h2,a.loc (λx hx=>hk x ((h1 x).2 (.inl hx))) h3,b.loc (λx hx=>hk x ((h1 x).2 (.inr hx))) h4⟩,λz ⟨E,F,h1,h2,h3,h4⟩=>⟨E,F,h1,h2,a.mono z h3,b.mono z h4⟩⟩
def exA{α:Type}(f:α->Asrt):Asrt:=⟨λZ D h=>∃x,(f x).p Z D h,λhk ⟨x,hx⟩=>⟨x,(f x).loc hk hx⟩,λz ⟨x,hx⟩=>⟨x,(f x).mono z hx⟩⟩
def puA(q:Prop):Asrt:=⟨λ_ D _=>(∀x,¬D x)/\q,λ_ h=>h,λ_ h=>h⟩
section
variable {Z h:Hp}{l m:List Asrt}{a b:Asrt}
theorem ke{l l':List Asrt}(s:St Z l h)(f:Sep Z l (λb=>Z.objs.get b≠none) h->Sep Z l' (λb=>Z.objs.get b≠none) h):St Z l' h:=⟨s.frz,s.zlt,f s.sep⟩
theorem cO:St Z (jx a b::l) h↔St Z (a::b::l) h:=by
 constructor
 .refine λs=>ke s ?_;rintro⟨D,h1,⟨E,F,h2,h3,h4,h5⟩,h6⟩;refine⟨E,λx hx=>h1 x ((h2 x).2 (.inl hx)),h4,F,λx hx=>⟨λhu=>hu.elim (h1 x ((h2 x).2 (.inr hx))).1 λhe=>h3 x he hx,(h1 x ((h2 x).2 (.inr hx))).2⟩,h5,db (λx hx=>?_) h6⟩;rcases hx with(hx|hx)|hx
  .exact .inl hx
  .exact .inr ((h2 x).2 (.inl hx))
  .exact .inr ((h2 x).2 (.inr hx))
 .refine λs=>ke s ?_;rintro⟨E,h1,h4,F,h2,h5,h6⟩;refine⟨λx=>E x\/F x,λx hx=>hx.elim (h1 x) λhx=>⟨λhu=>(h2 x hx).1 (.inl hu),(h2 x hx).2⟩,⟨E,F,λ_=>Iff.rfl,λx he hf=>(h2 x hf).1 (.inr he),h4,h5⟩,db (λx hx=>?_) h6⟩;rcases hx with hx|hx|hx
  .exact .inl (.inl hx)
  .exact .inl (.inr hx)
  .exact .inr hx
theorem eL{α:Type}{f:α->Asrt}:St Z (exA f::l) h↔∃x,St Z (f x::l) h:=
 ⟨λs=>let⟨D,h1,⟨x,h2⟩,h3⟩:=s.sep;⟨x,s.frz,s.zlt,D,h1,h2,h3⟩,λ⟨x,s⟩=>ke s λ⟨D,h1,h2,h3⟩=>⟨D,h1,⟨x,h2⟩,h3⟩⟩
theorem i1{q:Prop}:St Z (puA q::l) h↔q/\St Z l h:=
 ⟨λs=>let⟨_,_,⟨_,h2⟩,h3⟩:=s.sep;⟨h2,s.frz,s.zlt,db (λ_ hx=>.inl hx) h3⟩,λ⟨q,s⟩=>ke s λh3=>⟨λ_=>False,λ_ hx=>hx.elim,⟨λ_ hx=>hx,q⟩,db (λ_ hx=>hx.resolve_right id) h3⟩⟩
theorem St.rot1{a b:Asrt}(s:St Z (a::b::l) h):St Z (b::a::l) h:=s.perm (List.Perm.swap ..)
theorem St.rot2{a b c:Asrt}(s:St Z (a::b::c::l) h):St Z (c::a::b::l) h:=s.perm (List.perm_middle (l₁:=[a,b]))
end
section
variable {C:Cx}{c d:Cnt}{ρ:Va}{Z:Hp}{t:Ct}
theorem dD{key:RK}{k:List MI}{nv:XV}(e:Vals)(q:Prop)(h:∀l h,St Z (cR ρ k++l) h->q/\∃fs,key.says C.P C.Γ ρ h (nv.sv (ρ.ext c e),fs))(kk:q->den C t d (ρ.ext c e) Z):den C (.row key k nv d t) c ρ Z:=λl h' hs=>
 ⟨e,(h l h' hs).2.choose,(h l h' hs).2.choose_spec,kk (h l h' hs).1⟩
theorem dJ{key:EK}{k:List MI}{nv:XV}{nm:List MI}{α:Type}(e:α->Vals)(q:α->Prop)(h:∀l h,St Z (cR ρ k++l) h->∃x H,key.out C.P C.Γ ρ h=some [(nv.sv (ρ.ext c (e x)),H)]/\h.next<=H.next/\q x/\St Z (cR (ρ.ext c (e x)) nm++l) H)(kk:∀x,q x->den C t d (ρ.ext c (e x)) Z):den C (.eff key k nv nm d t) c ρ Z:=λl h' hs=>by
 obtain⟨x,H,h1,h2,h3,h4⟩:=h l h' hs;refine⟨_,h1,λy hy=>?_⟩;obtain rfl:=List.mem_singleton.1 hy;exact⟨h2,Z,e x,Sub.refl Z,rfl,h4,kk x h3⟩
theorem bS{f:Nat}{args:List XV}{k:List MI}{nv:XV}{nm:List MI}{α:Type}(e:α->Vals)(q:α->Prop)(h:∀l h,St Z (cR ρ k++l) h->Runs C.P C.Γ (.call f (svL ρ args) h) λo=>∃Z',Sub Z Z'/\∃x,q x/\o.v=nv.sv (ρ.ext c (e x))/\St Z' (cR (ρ.ext c (e x)) nm++l) o.hp)(kk:∀Z x,q x->den C t d (ρ.ext c (e x)) Z):den C (.call f args k nv nm d t) c ρ Z:=λl h' hs=>(h l h' hs).mono λ_ ⟨Z',z,x,h1,h2,h3⟩=>⟨Z',e x,z,h2,h3,kk Z' x h1⟩
theorem pQ{f:Nat}{args:List XV}{k:List MI}{nv:XV}{nm:List MI}{α:Type}(e:α->Vals)(q:α->Prop)(h:∀l h,St Z (cR ρ k++l) h->Runs C.P C.Γ (.round (ρ.n f) (svL ρ args) h) λo=>∃Z',Sub Z Z'/\∃x,q x/\o.v=nv.sv (ρ.ext c (e x))/\St Z' (cR (ρ.ext c (e x)) nm++l) o.hp)(kk:∀Z x,q x->den C t d (ρ.ext c (e x)) Z):den C (.round f args k nv nm d t) c ρ Z:=λl h' hs=>(h l h' hs).mono λ_ ⟨Z',z,x,h1,h2,h3⟩=>⟨Z',e x,z,h2,h3,kk Z' x h1⟩
theorem bQ{k nm:List MI}{α:Type}(e:α->Vals)(q:α->Prop)(h:∀l h,St Z (cR ρ k++l) h->∃x,q x/\St Z (cR (ρ.ext c (e x)) nm++l) h)(kk:∀x,q x->den C t d (ρ.ext c (e x)) Z):den C (.swap k nm d t) c ρ Z:=λl h' hs=>
 let⟨x,h1,h2⟩:=h l h' hs
 ⟨Z,e x,Sub.refl Z,h2,kk x h1⟩
theorem jt{k nm:List MI}{α:Type}(e:α->Vals)(q:α->Prop)(h:∀l h,St Z (cR ρ k++l) h->∃Z',Sub Z Z'/\∃x,q x/\St Z' (cR (ρ.ext c (e x)) nm++l) h)(kk:∀Z x,q x->den C t d (ρ.ext c (e x)) Z):den C (.swap k nm d t) c ρ Z:=λl h' hs=>
 let⟨Z',z,x,h1,h2⟩:=h l h' hs
 ⟨Z',e x,z,h2,kk Z' x h1⟩
end
def dz(Z0:Hp)(Q:Hp->SV->Hp->Prop)(v:SV)(h:Hp):Prop:=∃Z,Sub Z0 Z/\Q Z v h
theorem ld{Z h:Hp}{a:Asrt}{m l:List Asrt}:St Z (m++a::l) h↔St Z (a::(m++l)) h:=⟨λs=>s.perm List.perm_middle,λs=>s.perm List.perm_middle.symm⟩
section
variable {P:Program}{Γ:Glob}[Mute Γ]{f:FuncId}{Z Z0 h:Hp}{l:List Asrt}{Q:Hp->SV->Hp->Prop}{c:Cnt}{ρ:Va}
theorem rZ(fn:Func)(hf:P.funcs[f]? =some fn)(hb:fn.body.isSome=true)(args:List XV)(mem:List MI)(c:Cnt)(ρ:Va)(t:Ct)(n:Nat)(hq:chk P (some fn) (Nat.max fn.ntmps args.length) n (.run (fg fn)) [] (sy args mem c) t=true)(hs:St Z (cR ρ mem++l) h)(hm:theMem f (svL ρ args) h=none)(hd:den (fnC P Γ fn args.length [] (d4 Z::l) (dz Z Q)) t c ρ Z):
 Runs P Γ (.call f (svL ρ args) h) λo=>∃Z',Sub Z Z'/\Q Z' o.v o.hp:=gf fn hf hb args mem c ρ t n hq (ld.2 (mw.2 ⟨Sub.refl Z,hs⟩)) hm hd
theorem an{fn:Func}{k:Nat}{ms:List Nat}{v:XV}{mem:List MI}(h:∀h,St Z (cR ρ mem++l) h->Q Z (v.sv ρ) h):den (fnC P Γ fn k ms (d4 Z0::l) (dz Z0 Q)) (.ret v mem) c ρ Z:=have _:=(inferInstance:Mute Γ);λh' hs=>
 let s:=mw.1 (ld.1 hs)
 ⟨Z,s.1,h h' s.2⟩
end
theorem jL{a b:Nat}(h:a=b):Nat.beq a b=true:=by rw[h];exact Nat.beq_refl b
theorem EQ{a b:Nat}(h:a≠b):Nat.beq a b=false:=by
 cases e:Nat.beq a b with
 |false=>rfl
 |true=>exact absurd (aj e) h
def qZ(o:Option AObj)(b:Nat)(e:TypeId)(size:Nat)(v:SV)(l:List (List SV)):Prop:=∃cs,
 ((∃c,v=.slice b 0 l.length c/\l.length<=c/\c<=2000000/\o=some (.cells cs e)/\cs.length=c*size)\/(∃k,v=.row b 0 l.length k b/\l.length<=k/\o=some (.row cs e k b size)/\l.length*size<=cs.length))/\cs.take (l.length*size)=l.flatten
def dL(e:TypeId)(size:Nat)(v:SV)(l:List (List SV)):Asrt:=
 ⟨λ_ D h=>(∀x∈l,x.length=size/\x.all SV.one=true)/\((v=.lit (.slice none 0 0)/\l=[]/\∀x,¬D x)\/∃b,(∀x,D x↔x=b)/\qZ (h.objs.get b) b e size v l),λhk ⟨h1,h2⟩=>⟨h1,h2.imp id λ⟨b,h3,h4⟩=>⟨b,h3,by rw[hk b ((h3 b).2 rfl)];exact h4⟩⟩,λ_ h=>h⟩
def elP(v:SV)(k:Nat):SV:=match v with
 | .slice b off _ _=>.ptr b (off+k)
 | .row b off _ _ _=>.ptr b (off+k)
 |_=>.lit (.pointer none)
theorem ii{l vs:List SV}{off n:Nat}(h:(l.drop off).take n=vs)(hn:vs.length=n):Ev.cut l off n=some vs:=by
 simp only[Ev.cut,h,jL hn,bf]
theorem iJ{l vs:List SV}{off:Nat}(hl:off+vs.length<=l.length)(ho:vs.all SV.one=true):cH l off vs=some (l.take off++vs++l.drop (off+vs.length)):=by
 simp only[cH,ai hl,ho,aF,bf]
theorem el{size:Nat}:∀{l:List (List SV)},(∀y∈l,y.length=size)->l.flatten.length=l.length*size
 |[],_=>by simp
 |a::l,h=>by
  rw[aZ,ac,h a (ak ..),el λy hy=>h y (am _ hy),au,Nat.succ_mul];omega
theorem wc{size:Nat}:∀{l:List (List SV)} {j:Nat} {x:List SV},(∀y∈l,y.length=size)->l[j]? =some x->(l.flatten.drop (j*size)).take size=x/\j*size+size<=l.flatten.length
 |[],_,_,_,h=>by simp at h
 |a::l,0,x,hl,h=>by
  obtain rfl:a=x:=by simpa using h
  have:=hl a (ak ..);rw[aZ,Nat.zero_mul,List.drop_zero,List.take_append_of_le_length bj,<-this,List.take_length,ac];exact⟨rfl,by omega⟩
 |a::l,j+1,x,hl,h=>by
  have ha:=hl a (ak ..);obtain⟨h1,h2⟩:=wc (λy hy=>hl y (am _ hy)) (show l[j]? =some x by simpa using h);rw[aZ,show(j+1)*size=a.length+j*size by rw[Nat.succ_mul,ha];omega,List.drop_append,ac];simp only[Nat.add_sub_cancel_left,List.drop_eq_nil_of_le (show a.length<=a.length+j*size by omega),List.nil_append];exact⟨h1,by omega⟩
def gC(P:Program)(e:TypeId)(size:Nat):Prop:=∃i z,P.info? e=some i/\i.zero=some z/\i.size=size/\i.bytes<=1000/\(SV.cells (.lit z)).length=size
section
variable {P:Program}{Γ:Glob}{Z h:Hp}{m:List Asrt}{e:TypeId}{size:Nat}{v:SV}{l:List (List SV)}
theorem dR(s:St Z (dL e size v l::m) h):(∀x∈l,x.length=size/\x.all SV.one=true)/\((v=.lit (.slice none 0 0)/\l=[]/\St Z m h)\/∃b o,h.objs.get b=some o/\b<h.next/\qZ (some o) b e size v l/\St Z (own b o::m) h):=by
 obtain⟨D,h1,⟨h2,h3⟩,h4⟩:=s.sep;refine⟨h2,?_⟩;rcases h3 with⟨h5,h6,h7⟩|⟨b,h5,h6⟩
 .exact .inl ⟨h5,h6,s.frz,s.zlt,db (λ_ hx=>.inl hx) h4⟩
 .have hb:=h1 b ((h5 b).2 rfl);cases ho:h.objs.get b with
  |none=>
   rw[ho]at h6;obtain⟨cs,⟨_,_,_,_,h6,_⟩|⟨_,_,_,h6,_⟩,_⟩:=h6<;>cases h6
  |some o=>
   rw[ho]at h6;exact .inr ⟨b,o,ho.symm▸rfl,hb.2,h6,s.frz,s.zlt,D,h1,⟨h5,ho⟩,h4⟩
theorem ee{b:Nat}{o:AObj}(hl:∀x∈l,x.length=size/\x.all SV.one=true)(s:St Z (own b o::m) h)(hi:qZ (some o) b e size v l):St Z (dL e size v l::m) h:=ke s λ⟨D,h1,⟨h2,h3⟩,h4⟩=>⟨D,h1,⟨hl,.inr ⟨b,h2,by rw[h3];exact hi⟩⟩,h4⟩
theorem kZ:St Z (dL e size (.lit (.slice none 0 0)) []::m) h↔St Z m h:=
 ⟨λs=>s.drop (l:=[_]),λs=>ke s λh4=>⟨λ_=>False,λ_ hx=>hx.elim,⟨λ_ hx=>(by cases hx),.inl ⟨rfl,rfl,λ_ hx=>hx⟩⟩,db (λ_ hx=>hx.resolve_right id) h4⟩⟩
theorem Dd{P:Program}{h':Hp}{t e':TypeId}{o:Option AObj}{b:Nat}(ht:tyU P t=some (.slice e'))(w:qZ o b e size v l):gy P h' t v=some (.lit (.int .i64 (l.length:Int)),[]):=by
 obtain⟨_,⟨_,rfl,_⟩|⟨_,rfl,_⟩,_⟩:=w<;>simp only[gy,ht]<;>rfl
theorem zn{t:TypeId}{e':TypeId}(ht:tyU P t=some (.slice e'))(hnil:∀h,gy P h t (.lit (.slice none 0 0))=some (.lit (.int .i64 0),[]))(s:St Z (dL e size v l::m) h):gy P h t v=some (.lit (.int .i64 (l.length:Int)),[]):=by
 rcases(dR s).2 with⟨rfl,rfl,_⟩|⟨b,o,_,_,h3,_⟩
 .exact hnil h
 .exact Dd ht h3
theorem Gv{t:TypeId}{i:Int}(ht:tyU P t=some (.slice e))(hs:bI P e=some size)(s:St Z (dL e size v l::m) h)(h0:0<=i)(h1:i<l.length):bT P t v (.lit (.int .i64 i))=some (oneS (elP v (i.toNat*size))):=by
 obtain⟨j,rfl⟩:=Int.eq_ofNat_of_zero_le h0;have hj:Nat.blt j l.length=true:=ai bj;rcases(dR s).2 with⟨rfl,rfl,_⟩|⟨b,o,_,_,⟨_,⟨c,rfl,_⟩|⟨k,rfl,_⟩,_⟩,_⟩
 .simp at h1;omega
 .have:=show bT P t (.slice b 0 l.length c) (.lit (.int .i64 (Int.ofNat j)))=some (.ptr b (0+j*size)) by
   simp only[bT,ht,hs,ou,hj,bf]
  rw[cm (by rfl) (by simp only[elP,SV.same,bb,aF])];exact this
 .have:=show bT P t (.row b 0 l.length k b) (.lit (.int .i64 (Int.ofNat j)))=some (.ptr b (0+j*size)) by
   simp only[bT,ht,hs,ou,hj,bf]
  rw[cm (by rfl) (by simp only[elP,SV.same,bb,aF])];exact this
theorem zM{cs x vs:List SV}{j k n:Nat}(hall:∀y∈l,y.length=size)(hc:cs.take (l.length*size)=l.flatten)(hx:l[j]? =some x)(hk:Ev.cut x k n=some vs):Ev.cut cs (j*size+k) n=some vs:=by
 obtain⟨f1,f2⟩:=wc hall hx;obtain⟨c1,c2⟩:=dg.1 hk;rw[c1]at c2
 replace c1:=c1.symm
 have hxl:=hall x (aW hx);by_cases hn:n=0
 .subst hn;exact ii (by rw[List.length_eq_zero_iff.1 c2];rfl) c2
 .have hkn:k+n<=size:=by
   rw[c1,aL,aR]at c2;omega
  refine ii ?_ c2;have hfl:=el hall;have e1:(l.flatten.drop (j*size+k)).take n=vs:=by
   rw[c1,<-f1,List.drop_take,List.drop_drop,List.take_take,Nat.min_eq_left bj]
  rw[<-e1,<-hc,List.drop_take,List.take_take,Nat.min_eq_left bj]
theorem AH{o:AObj}{b j k n:Nat}{x vs:List SV}(hb:h.objs.get b=some o)(hall:∀y∈l,y.length=size)(w:qZ (some o) b e size v l)(hx:l[j]? =some x)(hk:Ev.cut x k n=some vs):∃fs,bF Γ h (elP v (j*size+k)) n=some (vs,fs):=by
 obtain⟨cs,⟨c,rfl,_,_,ho,_⟩|⟨c,rfl,_,ho,_⟩,ht⟩:=w
 .obtain rfl:=ab ho;exact⟨[.cells b (j*size+k) vs],by simp only[elP,bF,knownCells,hb,ay,aX,zM hall ht hx hk]⟩
 .obtain rfl:=ab ho;exact⟨[.cells b (j*size+k) vs],by simp only[elP,bF,knownCells,hb,ay,aX,zM hall ht hx hk]⟩
theorem tT{j k n:Nat}{x vs:List SV}(s:St Z (dL e size v l::m) h)(hx:l[j]? =some x)(hk:Ev.cut x k n=some vs):∃fs,bF Γ h (elP v (j*size+k)) n=some (vs,fs):=by
 obtain⟨hall,hh⟩:=dR s;rcases hh with⟨_,rfl,_⟩|⟨b,o,hb,_,hw,_⟩
 .simp at hx
 .exact AH hb (λy hy=>(hall y hy).1) hw hx hk
theorem qJ(v:SV)(k:Nat):oneS (elP v k)=elP v k:=by
 cases v<;>first|rfl|(refine cm rfl ?_;simp only[elP,SV.same,bb,aF])
theorem Dj{t:TypeId}{i:Int}{x:List SV}(ht:e8 P t=some true)(hs:bI P t=some size)(s:St Z (dL e size v l::m) h)(hx:l[i.toNat]? =some x):∃fs,dk P Γ h t (oneS (elP v (i.toNat*size)))=some (.agg x,fs):=by
 have hxl:=(dR s).1 x (aW hx);obtain⟨fs,hf⟩:=tT (Γ:=Γ) (k:=0) (n:=size) s hx (ii (by rw[List.drop_zero,<-hxl.1,List.take_length]) hxl.1);rw[Nat.add_zero]at hf;exact⟨fs,by simp only[qJ,dk,ht,hs,hf]⟩
theorem Ao{t:TypeId}{i:Int}{x:SV}(ht:e8 P t=some false)(hs:size=1)(s:St Z (dL e size v l::m) h)(hx:l[i.toNat]? =some [x]):∃fs,dk P Γ h t (oneS (elP v (i.toNat*size)))=some (x,fs):=by
 obtain⟨fs,hf⟩:=tT (Γ:=Γ) (k:=0) (n:=1) (vs:=[x]) s hx (ii rfl rfl);rw[Nat.add_zero]at hf;exact⟨fs,by simp only[qJ,dk,ht,hf]⟩
theorem s6{st:TypeId}{nb:Nat}{c:List SV}(hst:tyU P st=some (.slice e))(hi:gC P e size)(hsz:0<size)(s:St Z (dL e size v l::own nb (.cells c e)::m) h)(hc:c.length=size)(hone:c.all SV.one=true)(hn:l.length<=1900000):
 ∃v' H,cQ P Γ h [st,st] v (.slice nb 0 1 1)=some (oneS v',H)/\h.next<=H.next/\St Z (dL e size (oneS v') (l++[c])::m) H:=by
 obtain⟨i,z,hi,hz,his,hby,hzs⟩:=hi;subst his;obtain⟨hall,hh⟩:=dR s;have hcut:Ev.cut c 0 i.size=some c:=ii (by rw[List.drop_zero,<-hc,List.take_length]) hc;have hnb:h.objs.get nb=some (.cells c e):=(St.get (l:=[_]) s).1;have hsrc:de Γ h i.size (.slice nb 0 1 1)=some (c,1):=by
  simp only[de,bF,knownCells,hnb,ay,Nat.one_mul,hcut]
 have hcond:(Nat.ble i.bytes 1000&&Nat.ble 1 2000000&&Nat.blt 0 i.size&&Nat.beq (SV.cells (.lit z)).length i.size&&Nat.beq c.length (1*i.size))=true:=by
  rw[ai hby,show Nat.blt 0 i.size=true from ai hsz,jL hzs,jL (show c.length=1*i.size by omega)];rfl
 have hlens:=λy hy=>(hall y hy).1;have hfs:=el hlens;have hnew:∀x∈l++[c],x.length=i.size/\x.all SV.one=true:=λx hx=>by
  rcases List.mem_append.1 hx with hx|hx
  .exact hall x hx
  .rw[List.mem_singleton.1 hx];exact⟨hc,hone⟩
 have hlen:(l++[c]).length=l.length+1:=by rw[ac,List.length_singleton]
 have hfl:(l++[c]).flatten=l.flatten++c:=by rw[List.flatten_append,List.flatten_singleton]
 have hmul:(l.length+1)*i.size=l.flatten.length+c.length:=by rw[Nat.succ_mul,hfs,hc]
 have htk:(l.flatten++c).take ((l.length+1)*i.size)=l.flatten++c:=by rw[hmul,<-ac,List.take_length]
 have hrow:∀b,qZ (some (.row (l.flatten++c) e (l.length+1) b i.size)) b e i.size (.row b 0 (l.length+1) (l.length+1) b) (l++[c]):=λb=>
  ⟨_,.inr ⟨_,by rw[hlen],by rw[hlen];exact av _,rfl,by rw[hlen,ac,hmul];exact av _⟩,by rw[hlen,htk,hfl]⟩
 have hv:∀b,oneS (.row b 0 (l.length+1) (l.length+1) b)=.row b 0 (l.length+1) (l.length+1) b:=λb=>cm rfl (by simp only[SV.same,bb,aF]);rcases hh with⟨rfl,rfl,s'⟩|⟨b,o,hb,hbn,⟨cs,⟨k,rfl,c1,c2,ho,hcs⟩|⟨k,rfl,c1,ho,hcs⟩,a4⟩,s'⟩
 .refine⟨.row h.next 0 (0+1) (0+1) h.next,_,?_,Nat.le_succ _,ee hnew (St.new (o:=.row c e 1 h.next i.size) (s'.drop (l:=[_]))) (by rw[show oneS (.row h.next 0 (0+1) (0+1) h.next)=_ from hv h.next];exact hrow h.next)⟩;rw[show oneS (.row h.next 0 (0+1) (0+1) h.next)=_ from hv h.next];simp only[cQ,hst,hi,hz,hsrc,jB,bg,hcond,bf,EQ (show(1:Nat)≠0 by decide),dh];rfl
 .obtain rfl:=ab ho;have hslc:∀n,oneS (.slice b 0 n k)=.slice b 0 n k:=λn=>cm rfl (by simp only[SV.same,bb,aF]);by_cases hroom:l.length+1<=k
  .have hm:(l.length+1)*i.size<=k*i.size:=Nat.mul_le_mul_right _ hroom;rw[Nat.succ_mul]at hm;have hsp:cH cs (0+l.length*i.size) c=some (cs.take (l.length*i.size)++c++cs.drop (l.length*i.size+c.length)):=by
    rw[aX];exact iJ bj hone
   have s2:St Z (own b (.cells (cs.take (l.length*i.size)++c++cs.drop (l.length*i.size+c.length)) e)::own nb (.cells c e)::m) _:=St.set (l:=[]) s';refine⟨.slice b 0 (l.length+1) k,⟨h.objs.set b (.cells (cs.take (l.length*i.size)++c++cs.drop (l.length*i.size+c.length)) e),h.next⟩,?_,av _,ee hnew (St.drop1 (l:=[own b (.cells (cs.take (l.length*i.size)++c++cs.drop (l.length*i.size+c.length)) e)]) s2) ⟨_,.inl ⟨k,by rw[hlen,hslc],by rw[hlen];exact hroom,c2,rfl,?_⟩,?_⟩⟩
   .rw[hslc];simp only[cQ,hst,hi,hz,hsrc,jB,bg,hcond,bf,ai c2,ai c1,aF,ai hroom,hb,hsp,af,Hp.upd]
   .simp only[ac,aL,aR];omega
   .have e1:(cs.take (l.length*i.size)++c).length=(l++[c]).length*i.size:=by
     rw[hlen,ac,aL,Nat.succ_mul,hc,Nat.min_eq_left bj]
    rw[<-e1,List.take_left,a4,hfl]
  .have hread:bF Γ h (.ptr b 0) (l.length*i.size)=some (l.flatten,[.cells b 0 l.flatten]):=by
    have:Ev.cut cs 0 (l.length*i.size)=some l.flatten:=ii (by rw[List.drop_zero,a4]) hfs;simp only[bF,knownCells,hb,ay,this]
   have hno:Nat.ble (l.length+1) k=false:=by
    cases hh:Nat.ble (l.length+1) k with
    |false=>rfl
    |true=>exact absurd (aG hh) hroom
   refine⟨.row h.next 0 (l.length+1) (l.length+1) h.next,_,?_,Nat.le_succ _,ee hnew (St.new (o:=.row (l.flatten++c) e (l.length+1) h.next i.size) (s'.drop (l:=[_,_]))) (by rw[hv h.next];exact hrow h.next)⟩;rw[hv h.next];simp only[cQ,hst,hi,hz,hsrc,jB,bg,hcond,bf,ai c2,ai c1,aF,hno,hread,dh]
 .obtain rfl:=ab ho;have s0:St Z m ⟨h.objs.put b none,h.next⟩:=by
   have sk:∀x,x≠b->(h.objs.put b none).get x=h.objs.get x:=λx hx=>by rw[T.get_put,bh hx]
   obtain⟨D,h1,⟨h2,h3⟩,h4⟩:=s'.sep;have hz:Z.objs.get b=none:=Classical.not_not.1 (h1 b ((h2 b).2 rfl)).1;have s3:St Z (own nb (.cells c e)::m) ⟨h.objs.put b none,h.next⟩:=⟨λx p he=>(sk x (λhh=>by rw[hh,hz]at he;cases he)).trans (s'.frz x p he),s'.zlt,db (λx hx=>.inl hx) (gZ (h:=h) (av _) (λx _ hx=>sk x λhh=>hx (.inr ((h2 x).2 hh))) h4)⟩;exact s3.drop (l:=[_])
  refine⟨.row h.next 0 (l.length+1) (l.length+1) h.next,_,?_,Nat.le_succ _,ee hnew (St.new (o:=.row (l.flatten++c) e (l.length+1) h.next i.size) s0) (by rw[hv h.next];exact hrow h.next)⟩;rw[hv h.next];simp only[cQ,hst,hi,hz,hsrc,jB,bg,hcond,bf,ai (show l.length<=2000000 by omega),hb,jL rfl,ai c1,ai hcs,hone,EQ (show(1:Nat)≠0 by decide),aF,a4,dh]
end
def lsA{α:Type}(e:TypeId)(size:Nat)(enc:α->List SV)(v:SV)(L:List α):Asrt:=dL e size v (L.map enc)
def lget{α:Type}[Inhabited α](L:List α)(i:Int):α:=(L[i.toNat]?).getD default
def Ak{α:Type}(L:List α)(i:Int)(x:α):List α:=L.set i.toNat x
section
variable {P:Program}{Γ:Glob}{Z h:Hp}{m:List Asrt}{e:TypeId}{size:Nat}{v:SV}{α:Type}{enc:α->List SV}{L:List α}
theorem pW[Inhabited α]{i:Int}(h0:0<=i)(h1:i<L.length):(L.map enc)[i.toNat]? =some (enc (lget L i)):=by
 have hi:i.toNat<L.length:=by omega
 simp only[lget,aV,aB hi,af,Option.getD_some]
theorem kS:St Z m h->St Z (lsA e size enc (oneS (.lit (.slice none 0 0))) ([]:List α)::m) h:=kZ.2
theorem eD{t e':TypeId}(ht:tyU P t=some (.slice e'))(hnil:∀h,gy P h t (.lit (.slice none 0 0))=some (.lit (.int .i64 0),[]))(s:St Z (lsA e size enc v L::m) h):True/\∃fs,gy P h t v=some (.lit (.int .i64 (L.length:Int)),fs):=
 ⟨trivial,_,by have:=zn (P:=P) ht hnil s;rw[ao]at this;exact this⟩
theorem ga{t:TypeId}{i:Int}(ht:tyU P t=some (.slice e))(hs:bI P e=some size)(s:St Z (lsA e size enc v L::m) h)(h0:0<=i)(h1:i<L.length):True/\∃fs,one (bT P t v (.lit (.int .i64 i)))=some (oneS (elP v (i.toNat*size)),fs):=
 ⟨trivial,[],by rw[Gv ht hs s h0 (by rw[ao];exact h1)];rfl⟩
theorem ky[Inhabited α]{t:TypeId}{i:Int}(ht:e8 P t=some true)(hs:bI P t=some size)(s:St Z (lsA e size enc v L::m) h)(h0:0<=i)(h1:i<L.length):True/\∃fs,dk P Γ h t (oneS (elP v (i.toNat*size)))=some (.agg (enc (lget L i)),fs):=⟨trivial,Dj ht hs s (pW h0 h1)⟩
theorem iO[Inhabited α]{t:TypeId}{i:Int}{x:SV}(ht:e8 P t=some false)(hs:size=1)(s:St Z (lsA e size enc v L::m) h)(h0:0<=i)(h1:i<L.length)(hx:enc (lget L i)=[x]):True/\∃fs,dk P Γ h t (oneS (elP v (i.toNat*size)))=some (x,fs):=⟨trivial,Ao ht hs s (by rw[<-hx];exact pW h0 h1)⟩
theorem Jm{x:α}:lsA e size enc v (L++[x])=dL e size v (L.map enc++[enc x]):=by simp only[lsA,aH,ax,aY]
theorem iu{st:TypeId}{nb:Nat}{x:α}{c:List SV}(hst:tyU P st=some (.slice e))(hi:gC P e size)(hsz:0<size)(s:St Z (lsA e size enc v L::own nb (.cells c e)::m) h)(hx:c=enc x)(hc:c.length=size)(hone:c.all SV.one=true)(hn:L.length<=1900000):
 ∃v' H,val (cQ P Γ h [st,st] v (.slice nb 0 1 1))=some [(oneS v',H)]/\h.next<=H.next/\True/\St Z (lsA e size enc (oneS v') (L++[x])::m) H:=by
 obtain⟨v',H,h1,h2,h3⟩:=s6 (Γ:=Γ) hst hi hsz s hc hone (by rw[ao];exact hn);exact⟨v',H,by rw[h1];rfl,h2,trivial,by rw[Jm,<-hx];exact h3⟩
end
structure KeyOk(P:Program)(kt:TypeId){κ:Type}[DecidableEq κ](kc:κ->SV):Prop where
 lit:∀a,∃v,(kc a).toLit=some v/\(∀e,pureRun P (Instr.checkKey e 10000 kt v)=some ())/\Instr.sameBits 10000 v v=true
 eq:∀a b v w,(kc a).toLit=some v->(kc b).toLit=some w->pureRun P (Op.equal kt v w)=some (decide (a=b))
section
variable {κ α:Type}[DecidableEq κ]
def dZ:List (κ×α)->κ->Option α
 |[],_=>none
 |(a,x)::l,k=>if k=a then some x else dZ l k
def iA(L:List (κ×α))(k:κ):Bool:=(dZ L k).isSome
def mget[Inhabited α](L:List (κ×α))(k:κ):α:=(dZ L k).getD default
def gb:List (κ×α)->κ->α->List (κ×α)
 |[],k,x=>[(k,x)]
 |(a,y)::l,k,x=>if k=a then(k,x)::l else(a,y)::gb l k x
theorem BA:∃f:List (κ×α)->κ->α->List (κ×α),f=gb:=⟨_,rfl⟩
noncomputable def mset:List (κ×α)->κ->α->List (κ×α):=Classical.choose BA
theorem lP:(mset:List (κ×α)->κ->α->List (κ×α))=gb:=Classical.choose_spec BA
theorem tA{k:κ}{x:α}:∀{L:List (κ×α)} {y:κ},y∈(gb L k x).map (·.1)->y=k\/y∈L.map (·.1)
 |[],y,h=>by simpa[gb]using h
 |(a,z)::l,y,h=>by
  unfold gb at h;split at h
  .rename_i e;rcases aD.1 h with h|h
   .exact .inl h
   .exact .inr (am _ h)
  .rcases aD.1 h with h|h
   .exact .inr (h▸ak ..)
   .exact(tA h).imp id λh=>am _ h
theorem mL{k:κ}{x:α}:∀{L:List (κ×α)},(L.map (·.1)).Nodup->((gb L k x).map (·.1)).Nodup
 |[],_=>by simp[gb]
 |(a,z)::l,h=>by
  have h:=List.nodup_cons.1 h;unfold gb;split
  .rename_i e;subst e;exact List.nodup_cons.2 h
  .rename_i e;exact List.nodup_cons.2 ⟨λhh=>(tA hh).elim (λhh=>e hh.symm) h.1,mL h.2⟩
theorem qK{k:κ}{x:α}:∀{L:List (κ×α)},dZ L k=none->gb L k x=L++[(k,x)]
 |[],_=>rfl
 |(a,z)::l,h=>by
  unfold dZ at h;split at h
  .cases h
  .rename_i e;rw[gb,bh e,qK h];rfl
def Px(kc:κ->SV)(ve:α->SV)(L:List (κ×α))(es:List (SV×SV×Nat))(c:Nat):Prop:=
 es.map (λe=>(e.1,e.2.1))=L.map (λx=>(kc x.1,ve x.2))/\(es.map λe=>e.2.2).Nodup/\(∀e∈es,e.2.2<c)/\(L.map λx=>x.1).Nodup
def mpA(kc:κ->SV)(ve:α->SV)(M:Nat)(L:List (κ×α)):Asrt:=
 ⟨λ_ D h=>(∀x,D x↔x=M)/\∃es c,h.objs.get M=some (.map es c)/\Px kc ve L es c,λhk ⟨h1,es,c,h2,h3⟩=>⟨h1,es,c,(hk M ((h1 M).2 rfl)).trans h2,h3⟩,λ_ h=>h⟩
end
section
variable {κ α:Type}[DecidableEq κ]{P:Program}{Γ:Glob}{Z h:Hp}{m:List Asrt}{kt vt:TypeId}{kc:κ->SV}{ve:α->SV}{M:Nat}{L:List (κ×α)}
theorem rP(s:St Z (mpA kc ve M L::m) h):∃es c,h.objs.get M=some (.map es c)/\es.map (λe=>(e.1,e.2.1))=L.map (λx=>(kc x.1,ve x.2))/\(es.map (·.2.2)).Nodup/\(∀e∈es,e.2.2<c)/\(L.map (·.1)).Nodup/\St Z (own M (.map es c)::m) h:=by
 have _:=(inferInstance:DecidableEq κ);obtain⟨D,h1,⟨h2,es,c,h3,h4,h5,h6,h7⟩,h8⟩:=s.sep;exact⟨es,c,h3,h4,h5,h6,h7,s.frz,s.zlt,D,h1,⟨h2,h3⟩,h8⟩
theorem Aj{es:List (SV×SV×Nat)}{c:Nat}(s:St Z (own M (.map es c)::m) h)(h1:es.map (λe=>(e.1,e.2.1))=L.map (λx=>(kc x.1,ve x.2)))(h2:(es.map (·.2.2)).Nodup)(h3:∀e∈es,e.2.2<c)(h4:(L.map (·.1)).Nodup):St Z (mpA kc ve M L::m) h:=have _:=(inferInstance:DecidableEq κ);ke s λ⟨D,k1,⟨k2,k3⟩,k4⟩=>⟨D,k1,⟨k2,es,c,k3,h1,h2,h3,h4⟩,k4⟩
theorem oa(s:St Z (own M (.map [] 0)::m) h):St Z (mpA kc ve M []::m) h:=Aj s rfl List.nodup_nil (λ_ hx=>(by cases hx)) List.nodup_nil
theorem vw(K:KeyOk P kt kc){k:κ}{v:Value}(hv:(kc k).toLit=some v):∀{L:List (κ×α)} {es:List (SV×SV×Nat)} (i:Nat),es.map (λe=>(e.1,e.2.1))=L.map (λx=>(kc x.1,ve x.2))->
 (dZ L k=none->fK P kt v es i=some none)/\∀x,dZ L k=some x->∃j,fK P kt v es i=some (some (i+j,ve x))/\(∃e,es[j]? =some e/\e.1=kc k)/\∀y,(dw es j (kc k) (ve y)).map (λe=>(e.1,e.2.1))=(gb L k y).map (λx=>(kc x.1,ve x.2))/\(dw es j (kc k) (ve y)).map (·.2.2)=es.map (·.2.2)
 |[],es,i,h=>by
  cases es with
  |nil=>exact⟨λ_=>rfl,λx hx=>(by cases hx)⟩
  |cons _ _=>cases h
 |(a,x)::L,[],i,h=>by cases h
 |(a,x)::L,(k',v',s)::es,i,h=>by
  rw[ax,ax]at h;obtain⟨h1,h2⟩:=List.cons.inj h;obtain⟨rfl,rfl⟩:=Prod.mk.inj h1;obtain⟨w,hw,_⟩:=K.lit a;have he:=K.eq k a v w hv hw;obtain⟨g1,g2⟩:=vw K hv (i+1) h2;by_cases e:k=a
  .subst e;rw[bd rfl]at he;refine⟨λhn=>(by rw[dZ,bi rfl]at hn;cases hn),λy hy=>?_⟩;rw[dZ,bi rfl]at hy;obtain rfl:=ab hy;refine⟨0,by simp only[fK,hw,he,Nat.add_zero],⟨_,rfl,rfl⟩,λy=>?_⟩;rw[gb,bi rfl];exact⟨by simp only[dw,ax,h2],rfl⟩
  .rw[bc e]at he;refine⟨λhn=>?_,λy hy=>?_⟩
   .rw[dZ,bh e]at hn;simp only[fK,hw,he,g1 hn]
   .rw[dZ,bh e]at hy;obtain⟨j,j1,⟨e',j2,j3⟩,j4⟩:=g2 y hy;refine⟨j+1,by simp only[fK,hw,he,j1,Nat.add_assoc,Nat.add_comm 1 j],⟨e',by simpa using j2,j3⟩,λz=>?_⟩;rw[gb,bh e];exact⟨by simp only[dw,ax,(j4 z).1],by simp only[dw,ax,(j4 z).2]⟩
theorem vd{t:TypeId}{k:κ}(ht:tyU P t=some (.map kt vt))(K:KeyOk P kt kc)(s:St Z (mpA kc ve M L::m) h):(∀x,dZ L k=some x->∃fs,∀ok,dC P h t (.map M) (kc k) ok=some (bif ok then .tuple [ve x,cP true]else ve x,fs))/\(dZ L k=none->∀z,dB P vt=some z->∃fs,∀ok,dC P h t (.map M) (kc k) ok=some (bif ok then .tuple [.lit z,cP false]else .lit z,fs)):=by
 obtain⟨es,c,h1,h2,_⟩:=rP s;obtain⟨v,hv,hc,_⟩:=K.lit k;obtain⟨g1,g2⟩:=vw K hv 0 h2;refine⟨λx hx=>?_,λhn z hz=>?_⟩
 .obtain⟨j,j1,_⟩:=g2 x hx;exact⟨[.obj M (.map es c)],λok=>by simp only[dC,ht,d8,h1,hv,hc,j1]⟩
 .exact⟨[.obj M (.map es c)],λok=>by simp only[dC,ht,d8,h1,hv,hc,g1 hn,hz]⟩
theorem mr[Inhabited α]{t:TypeId}{k:κ}{z:Value}(ht:tyU P t=some (.map kt vt))(K:KeyOk P kt kc)(hz:dB P vt=some z)(hd:ve default=.lit z)(s:St Z (mpA kc ve M L::m) h):True/\∃fs,dC P h t (.map M) (kc k) false=some (ve (mget L k),fs):=by
 obtain⟨g1,g2⟩:=vd (k:=k) ht K s;cases e:dZ L k with
 |none=>
  obtain⟨fs,hf⟩:=g2 e z hz;exact⟨trivial,fs,by rw[hf,mget,e];exact congrArg (λx=>some (x,fs)) hd.symm⟩
 |some x=>
  obtain⟨fs,hf⟩:=g1 x e;exact⟨trivial,fs,by rw[hf,mget,e];rfl⟩
theorem Hc{t:TypeId}(ht:tyU P t=some (.map kt vt))(s:St Z (mpA kc ve M L::m) h):True/\∃fs,gy P h t (.map M)=some (.lit (.int .i64 (L.length:Int)),fs):=by
 obtain⟨es,c,h1,h2,_⟩:=rP s;have hl:es.length=L.length:=by simpa using congrArg List.length h2
 exact⟨trivial,[.obj M (.map es c)],by simp only[gy,ht,h1,hl];rfl⟩
theorem ic{t:TypeId}{k:κ}{x:α}{kv vv:SV}(ht:tyU P t=some (.map kt vt))(K:KeyOk P kt kc)(s:St Z (mpA kc ve M L::m) h)(hk:kv=kc k)(hx:vv=ve x):∃(_:Unit) (H:Hp),mi (fY P h t (.map M) kv vv)=some [(.lit undef,H)]/\h.next<=H.next/\True/\St Z (mpA kc ve M (mset L k x)::m) H:=by
 rw[lP];subst hk hx;obtain⟨es,c,h1,h2,h3,h4,h5,s'⟩:=rP s;obtain⟨v,hv,hc,hb⟩:=K.lit k;obtain⟨g1,g2⟩:=vw K hv 0 h2;cases e:dZ L k with
 |none=>
  refine⟨(),⟨h.objs.set M (.map (es++[(kc k,ve x,c)]) (c+1)),h.next⟩,?_,av _,trivial,Aj (St.set (l:=[]) s') ?_ ?_ ?_ (mL h5)⟩
  .simp only[fY,ht,hv,h1,hc,g1 e,Hp.upd];rfl
  .rw[qK e,aH,aH,h2];rfl
  .rw[aH,List.nodup_append];refine⟨h3,by simp,λa ha b hb=>?_⟩;obtain⟨y,hy,rfl⟩:=List.mem_map.1 ha;simp only[ax,aY,List.mem_singleton]at hb;have:=h4 y hy;omega
  .intro y hy;rcases List.mem_append.1 hy with hy|hy
   .have:=h4 y hy;omega
   .rw[List.mem_singleton.1 hy];exact aq _
 |some y=>
  obtain⟨j,j1,⟨e',j2,j3⟩,j4⟩:=g2 y e;obtain⟨k1,k2⟩:=j4 x;rw[aX]at j1;refine⟨(),⟨h.objs.set M (.map (dw es j (kc k) (ve x)) c),h.next⟩,?_,av _,trivial,Aj (St.set (l:=[]) s') k1 (by rw[k2];exact h3) ?_ (mL h5)⟩
  .simp only[fY,ht,hv,h1,hc,j1,j2,ay,j3,hb,bf,Hp.upd];rfl
  .intro y hy;have:y.2.2∈(dw es j (kc k) (ve x)).map (·.2.2):=List.mem_map_of_mem (f:=(·.2.2)) hy;rw[k2]at this;obtain⟨z,hz,hz2⟩:=List.mem_map.1 this;rw[<-hz2];exact h4 z hz
end
def Df:List Asrt->Asrt
 |[]=>puA True
 |a::l=>jx a (Df l)
theorem ir{Z h:Hp}:∀{m l:List Asrt},St Z (Df m::l) h↔St Z (m++l) h
 |[],l=>i1.trans ⟨λs=>s.2,λs=>⟨trivial,s⟩⟩
 |a::m,l=>cO.trans ⟨λs=>(ir (m:=m) (l:=a::l)).1 s.rot1 |>.perm List.perm_middle,λs=>((ir (m:=m) (l:=a::l)).2 (s.perm List.perm_middle.symm)).rot1⟩
def exL{α:Type}(f:α->List Asrt)(q:α->Prop):Asrt:=exA λx=>jx (puA (q x)) (Df (f x))
theorem oK{Z h:Hp}{α:Type}{f:α->List Asrt}{q:α->Prop}{l:List Asrt}:St Z (exL f q::l) h↔∃x,q x/\St Z (f x++l) h:=
 eL.trans ⟨λ⟨x,s⟩=>⟨x,let s':=i1.1 (cO.1 s);⟨s'.1,ir.1 s'.2⟩⟩,λ⟨x,q,s⟩=>⟨x,cO.2 (i1.2 ⟨q,ir.2 s⟩)⟩⟩
def my(P:Program)(Γ:Glob)(B n:Nat)(args:Nat->SV->List SV)(G:Nat->SV->List Asrt)(J:Nat->Asrt)(Q:Asrt):Prop:=∀k,k<n->∀rv Z l h,St Z (G k rv++J k::l) h->Runs P Γ (.round B (args k rv) h) λo=>∃Z',Sub Z Z'/\((o.v=bV true/\St Z' (J (k+1)::l) o.hp)\/(o.v=bV false/\St Z' (Q::l) o.hp))
def zO(P:Program)(Γ:Glob)(f:FuncId)(xs ys:List SV)(n:Nat)(args:Nat->SV->List SV)(G:Nat->SV->List Asrt)(la lb:List Asrt):Prop:=∀Z B J0 J Q l h,(∀Z l h,St Z (lb++J0::l) h->St Z (J 0::l) h)->my P Γ B n args G J Q->St Z (la++(lb++J0::l)) h->Runs P Γ (.call f (xs++[.yield B]++ys) h) λo=>∃Z',Sub Z Z'/\(St Z' (la++J n::l) o.hp\/St Z' (la++Q::l) o.hp)
def jz(J:Nat->Asrt)(x:Int):Asrt:=J x.toNat
def yA(v:Bool)(a b:Asrt):Asrt:=bif v then a else b
section
variable {P:Program}{Γ:Glob}{Z h:Hp}{B n:Nat}{args:Nat->SV->List SV}{G:Nat->SV->List Asrt}{J:Nat->Asrt}{Q:Asrt}{l:List Asrt}
theorem EA{v:Bool}{a b:Asrt}(c:v=true)(s:St Z (yA v a b::l) h):St Z (a::l) h:=by rw[c]at s;exact s
theorem C9{v:Bool}{a b:Asrt}(c:¬v=true)(s:St Z (yA v a b::l) h):St Z (b::l) h:=by
 rw[show v=false by cases v<;>simp_all]at s;exact s
theorem lG(hr:my P Γ B n args G J Q){x:Int}(h0:0<=x)(h1:x.toNat<n){az:List SV}{gs:List Asrt}{rv:SV}(ha:args x.toNat rv=az)(hg:G x.toNat rv=gs)(s:St Z (gs++jz J x::l) h):Runs P Γ (.round B az h) λo=>∃Z',Sub Z Z'/\∃v:Bool,True/\o.v=bV v/\St Z' (yA v (jz J (x+1)) Q::l) o.hp:=by
 rw[<-ha];rw[<-hg]at s;refine(hr x.toNat h1 rv Z l h s).mono ?_;rintro o ⟨Z',z,⟨e,s⟩|⟨e,s⟩⟩
 .refine⟨Z',z,true,trivial,e,?_⟩;show St Z' (J (x+1).toNat::l) o.hp;rw[show(x+1).toNat=x.toNat+1 by omega];exact s
 .exact⟨Z',z,false,trivial,e,s⟩
theorem wz{x:Int}(hx:x=(n:Int)){la:List Asrt}(s:St Z (la++jz J x::l) h):St Z (la++J n::l) h:=by
 subst hx;exact s
end
def gl:SExit->Option Code
 | .normal=>none
 | .ret=>some .ret
 | .exit i=>some (.exit i)
theorem ph{B:Nat}{e:SExit}{fr:Fr}{h:Hp}{x:ALoop}{v:SV}(hB:h.objs.get B=some (.loop x)):eG B ⟨e,fr,h,v⟩=some [⟨.ret,fr,h.upd B (.loop {x with state:=bif(gl e).isNone then .ready else .done,pending:=gl e}),.lit (.bool (gl e).isNone)⟩]:=by
 cases e<;>(simp only[eG,gG,hB];rfl)
theorem yb{P:Program}{Γ:Glob}{hp:Hp}{Φ:Out->Prop}{b:Nat}{args:List SV}{x:ALoop}{fr:Fr}(hb:hp.objs.get b=some (.loop x))(hl:Nat.beq args.length x.params.size=true)(hs:jC (x.params.toList.zip args) ⟨x.tmps,x.sz,[]⟩=some fr)
 (h:Runs P Γ (.code x.assign (some b) fr hp) λo=>∃y,o.exit=.normal/\o.hp.objs.get b=some (.loop y)/\y.state=.ready/\Runs P Γ (.code x.body (some b) o.fr (o.hp.upd b (.loop {y with state:=.busy}))) λo2=>∃r,eG b o2=some [r]/\Φ r):
 Runs P Γ (.round b args hp) Φ:=by
 refine Runs.step (Ends.bind (g:=λk o=>gJ (f8 P Γ theMem k) b x.body o) h (λo ho=>?_) λk xs hxs=>?_)
 .obtain⟨y,h1,h2,h3,h4⟩:=ho;refine Ends.bind (g:=λ_ o2=>eG b o2) h4 (λo2 ⟨r,h5,h6⟩=>Ends.one (λ_=>h5) h6) λk xs hxs=>?_;have hxs:f8 P Γ theMem k (.code x.body (some b) o.fr (o.hp.upd b (.loop {y with state:=.busy})))=some xs:=hxs;simp only[gJ,h1,h2,h3,hxs]
 .have hxs:f8 P Γ theMem k (.code x.assign (some b) fr hp)=some xs:=hxs;simp only[hU,bO,hb,hl,bf,hs,hxs]
def BW{α β:Type}(P:Program)(Γ:Glob)(Z:Hp)(ps:Array Tmp)(asg body:Code)(nt:Nat)(tm:T SV)(args:List SV)(f:List Asrt)(fJ:α->List Asrt)(inv:α->Prop)(e:SExit)(fQ:β->List Asrt)(qinv:β->Prop)(B:Nat)(l:List Asrt):Prop:=
 Nat.beq args.length ps.size=true/\∃fr,jC (ps.toList.zip args) ⟨tm,nt,[]⟩=some fr/\∀h,St Z (f++l) h->Runs P Γ (.code asg (some B) fr h) λo=>o.exit=.normal/\∃Z1,Sub Z Z1/\∃R:List Asrt,St Z1 (R++l) o.hp/\
  ∀l' h',St Z1 (R++l') h'->Runs P Γ (.code body (some B) o.fr h') λo2=>∃Z2,Sub Z1 Z2/\((o2.exit=.normal/\∃y,inv y/\St Z2 (fJ y++l') o2.hp)\/(o2.exit=e/\∃y,qinv y/\St Z2 (fQ y++l') o2.hp))
section
variable {Z h:Hp}{l m:List Asrt}{b:Nat}{o o':AObj}
theorem St.upd(s:St Z (l++own b o::m) h):St Z (l++own b o'::m) (h.upd b o'):=s.set
end
section
variable {P:Program}{Γ:Glob}{Z:Hp}{α β:Type}
theorem yi{g:Operand}{ps:Array Tmp}{asg body:Code}{tm:T SV}{nt:Nat}{ms:List Nat}{f:FuncId}{xs ys:List SV}{n:Nat}{args:Nat->SV->List SV}{G:Nat->SV->List Asrt}{la lb:List Asrt}{Φ:Out->Prop}{l:List Asrt}{h:Hp}
 (hg:Fr.ev ⟨tm,nt,ms⟩ g=.func (.func f) xs ys) (hseq:zO P Γ f xs ys n args G la lb) (m0:List Asrt) (fJ:α->List Asrt) (inv:Nat->α->Prop) (e:SExit) (he:(gl e).isNone=false) (fQ:β->List Asrt) (qinv:β->Prop)
 (hst:St Z (la++(lb++(m0++l))) h) (h0:∀Z l h,St Z (lb++(m0++l)) h->∃x,inv 0 x/\St Z (fJ x++l) h)
 (hrd:∀k,k<n->∀rv x,inv k x->∀Z B l,BW P Γ Z ps asg body nt tm (args k rv) (G k rv++fJ x) fJ (inv (k+1)) e fQ qinv B l)
 (k1:∀Z' x,inv n x->∀dm h v,St Z' (own dm (.deferred true)::(la++(fJ x++l))) h->Φ ⟨.normal,⟨tm,nt,dm::ms⟩,h,v⟩)
 (k2:∀Z' x,qinv x->∀dm h v,St Z' (own dm (.deferred true)::(la++(fQ x++l))) h->Φ ⟨e,⟨tm,nt,dm::ms⟩,h,v⟩):
 Runs P Γ (.code (.rangeFunc g ps asg body) none ⟨tm,nt,ms⟩ h) Φ:=by
 refine mC (f:=f) (args:=xs++[.yield (h.next+1)]++ys) (by rw[hg];rfl) ?_;generalize hx:(⟨.ready,none,0,tm,nt,ps,asg,body,h.next⟩:ALoop)=x;have s1:=hst.new (o:=.deferred true);have s2:St Z (own (h.next+1) (.loop x)::own h.next (.deferred true)::(la++(lb++(m0++l)))) ⟨(h.objs.set h.next (.deferred true)).set (h.next+1) (.loop x),h.next+2⟩:=s1.new;generalize hh2:(⟨(h.objs.set h.next (.deferred true)).set (h.next+1) (.loop x),h.next+2⟩:Hp)=h2 at s2⊢;generalize h.next+1=B at s2⊢;generalize h.next=dm at s2⊢;have hJ0:∀l',St Z (Df (own B (.loop x)::m0)::l') h2↔St Z (own B (.loop x)::(m0++l')) h2:=λl'=>ir;refine(hseq Z B (Df (own B (.loop x)::m0)) (λk=>jx (own B (.loop x)) (exL fJ (inv k))) (jx (own B (.loop {x with state:=.done,pending:=gl e})) (exL fQ qinv)) (own dm (.deferred true)::l) h2 ?_ ?_ ?_).mono ?_
 .intro Z l h' s;have s:St Z (own B (.loop x)::(lb++(m0++l))) h':=by
   have:=(ir (m:=own B (.loop x)::m0)).1 (s.perm List.perm_middle);refine this.perm ?_
   classical
   exact List.perm_iff_count.2 λa=>by simp only[List.count_append,List.count_cons];omega
  obtain⟨y,q1,q2⟩:=h0 Z (own B (.loop x)::l) h' (s.perm (by
   classical
   exact List.perm_iff_count.2 λa=>by simp only[List.count_append,List.count_cons];omega))
  exact cO.2 (St.rot1 (oK.2 ⟨y,q1,q2⟩))
 .intro k hk rv Z l h' s;have s:=cO.1 (ld.1 s);have hB:=(St.get (l:=[]) s).1;obtain⟨y,q1,q2⟩:=oK.1 (St.rot1 s);have q2:St Z ((G k rv++fJ y)++own B (.loop x)::l) h':=by
   refine q2.perm ?_
   classical
   exact List.perm_iff_count.2 λa=>by simp only[List.count_append,List.count_cons];omega
  obtain⟨r1,fr,r2,r3⟩:=hrd k hk rv y q1 Z B (own B (.loop x)::l);have hxt:x.tmps=tm:=by rw[<-hx]
  have hxs:x.sz=nt:=by rw[<-hx]
  have hxp:x.params=ps:=by rw[<-hx]
  have hxa:x.assign=asg:=by rw[<-hx]
  have hxb:x.body=body:=by rw[<-hx]
  refine yb hB (by rw[hxp];exact r1) (by rw[hxt,hxs,hxp];exact r2) ?_;rw[<-hxa,<-hxb]at r3;refine(r3 h' q2).mono ?_;rintro o ⟨e1,Z1,z1,R,e2,e3⟩;refine⟨x,e1,(St.get (l:=R) e2).1,by rw[<-hx],?_⟩;refine(e3 (own B (.loop {x with state:=.busy})::l) _ e2.upd).mono ?_;rintro⟨ex,fr2,H,v2⟩ ⟨Z2,z2,hc⟩;rcases hc with⟨c1,z,c2,c3⟩|⟨c1,z,c2,c3⟩
  .have c1:ex=.normal:=c1;subst c1;refine⟨_,ph (St.get c3).1,Z2,z1.trans z2,.inl ⟨rfl,cO.2 (St.rot1 (oK.2 ⟨z,c2,?_⟩))⟩⟩;have:=c3.upd (o':=.loop x);rw[<-hx]at this⊢;exact this
  .have c1:ex=e:=c1;subst c1;refine⟨_,ph (St.get c3).1,Z2,z1.trans z2,.inr ⟨by show SV.lit (.bool (gl ex).isNone)=_;rw[he],cO.2 (St.rot1 (oK.2 ⟨z,c2,?_⟩))⟩⟩;have:=c3.upd (o':=.loop {x with state:=.done,pending:=gl ex});rw[he];exact this
 .have p0:(own B (.loop x)::own dm (.deferred true)::(la++(lb++(m0++l)))).Perm ((own B (.loop x)::m0)++(la++(lb++own dm (.deferred true)::l))):=by
   classical
   exact List.perm_iff_count.2 λa=>by simp only[List.count_append,List.count_cons];omega
  refine(ir.2 (s2.perm p0)).perm ?_
  classical
  exact List.perm_iff_count.2 λa=>by simp only[List.count_append,List.count_cons];omega
 .rintro⟨ex,fr2,H,v2⟩ ⟨Z',z',hc⟩;rcases hc with hc|hc
  .have s3:=cO.1 (St.pull hc);have hB:=(St.get (l:=[]) s3).1;obtain⟨y,q1,q2⟩:=oK.1 (St.rot1 s3);have s4:=q2.upd (o':=.loop {x with state:=.exhausted});refine⟨⟨.normal,⟨tm,nt,dm::ms⟩,H.upd B (.loop {x with state:=.exhausted}),.lit undef⟩,?_,k1 Z' y q1 dm _ _ ((s4.perm (l':=own B (.loop {x with state:=.exhausted})::(own dm (.deferred true)::(la++(fJ y++l)))) ?_).drop (l:=[_]))⟩
   .have e1:x.state=.ready:=by rw[<-hx]
    have e2:x.pending=none:=by rw[<-hx]
    simp only[gu,hB,e1,e2]
   .classical
    exact List.perm_iff_count.2 λa=>by simp only[List.count_append,List.count_cons];omega
  .have s3:=cO.1 (St.pull hc);have hB:=(St.get (l:=[]) s3).1;obtain⟨y,q1,q2⟩:=oK.1 (St.rot1 s3);have s4:=q2.upd (o':=.loop {{x with state:=.done,pending:=gl e}with state:=.exhausted});refine⟨⟨e,⟨tm,nt,dm::ms⟩,H.upd B (.loop {{x with state:=.done,pending:=gl e}with state:=.exhausted}),.lit undef⟩,?_,k2 Z' y q1 dm _ _ ((s4.perm (l':=own B (.loop {{x with state:=.done,pending:=gl e}with state:=.exhausted})::(own dm (.deferred true)::(la++(fQ y++l)))) ?_).drop (l:=[_]))⟩
   .cases e with
    |normal=>cases he
    |ret=>simp only[gu,hB,gl]
    |exit i=>simp only[gu,hB,gl]
   .classical
    exact List.perm_iff_count.2 λa=>by simp only[List.count_append,List.count_cons];omega
end
def Ni:List (Tmp×XV)->T XV->T XV
 |[],f=>f
 |(t,v)::l,f=>Ni l (f.set t v)
theorem Br{ρ:Va}{nt:Nat}{ms:List Nat}:∀{l:List (Tmp×XV)} {tm:T SV} {f:T XV},l.all (λx=>Nat.blt x.1 nt)=true->FM ρ f ⟨tm,nt,ms⟩->∃tm',jC (l.map λx=>(x.1,x.2.sv ρ)) ⟨tm,nt,ms⟩=some ⟨tm',nt,ms⟩/\FM ρ (Ni l f) ⟨tm',nt,ms⟩
 |[],tm,f,_,h=>⟨tm,rfl,h⟩
 |(t,v)::l,tm,f,hl,h=>by
  rw[al,a8]at hl;have h1:FM ρ (f.set t v) ⟨tm.set t (v.sv ρ),nt,ms⟩:=by
   intro k w hk;rw[T.get_set]at hk;simp only[Fr.ev,T.get_set];by_cases e:k=t
   .rw[bi e]at hk⊢;rw[<-ab hk]
   .rw[bh e]at hk⊢;exact h k w hk
  obtain⟨tm',e1,e2⟩:=Br hl.2 h1;refine⟨tm',?_,e2⟩;have hb:Nat.blt t nt=true:=hl.1;show(match Fr.put ⟨tm,nt,ms⟩ (some t) (v.sv ρ)with|some f'=>jC _ f'|none=>none)=_;simp only[Fr.put,hb,bf];exact e1
theorem Ca(ρ:Va):∀(ps:List Tmp) (vs:List XV),(ps.zip vs).map (λx=>(x.1,x.2.sv ρ))=ps.zip (svL ρ vs)
 |[],_=>by simp
 |_::_,[]=>by simp[svL]
 |p::ps,v::vs=>by simp[svL,Ca ρ ps vs]
def Il(f:T XV)(mem:List MI)(win:List (Nat×List XV))(c:Cnt)(mks:List Nat):Sym:={f:=f,mem:=mem,win:=win,c:=c,mks:=mks}
def rC(P:Program)(Γ:Glob)(code:Code)(B nt:Nat)(l:List Asrt)(Φ:Out->Prop):Cx:=⟨P,Γ,code,some B,nt,[],l,Φ,λ_ _=>False⟩
def C3{α β:Type}(Z0:Hp)(fJ:α->List Asrt)(inv:α->Prop)(e:SExit)(fQ:β->List Asrt)(qinv:β->Prop)(l:List Asrt)(o:Out):Prop:=∃Z,Sub Z0 Z/\((o.exit=.normal/\∃y,inv y/\St Z (fJ y++l) o.hp)\/(o.exit=e/\∃y,qinv y/\St Z (fQ y++l) o.hp))
def Km{α β:Type}(P:Program)(Γ:Glob)(Z0:Hp)(body:Code)(B:Nat)(fJ:α->List Asrt)(inv:α->Prop)(e:SExit)(fQ:β->List Asrt)(qinv:β->Prop)(l:List Asrt)(o:Out):Prop:=o.exit=.normal/\∃Z,Sub Z0 Z/\∃R:List Asrt,St Z (R++l) o.hp/\∀l' h',St Z (R++l') h'->Runs P Γ (.code body (some B) o.fr h') (C3 Z fJ inv e fQ qinv l')
section
variable {P:Program}{Γ:Glob}[Mute Γ]{Z Z0:Hp}{α β:Type}{ps:Array Tmp}{asg body:Code}{nt N:Nat}{fr:List (Nat×XV)}{ρ:Va}{c:Cnt}{fJ:α->List Asrt}{inv:α->Prop}{e:SExit}{fQ:β->List Asrt}{qinv:β->Prop}{B:Nat}{l:List Asrt}
theorem zx{fr fr':List (Nat×XV)}{f:Fr}{ρ0:Va}(hf:fr'.map (λx=>(x.1,x.2.sv ρ))=fr.map λx=>(x.1,x.2.sv ρ0))(hs:∀x∈fr,f.ev (.tmp x.1)=x.2.sv ρ0):∀x∈fr',f.ev (.tmp x.1)=x.2.sv ρ:=λx hx=>by
 have:=List.mem_map_of_mem (f:=λx:Nat×XV=>(x.1,x.2.sv ρ)) hx;rw[hf]at this;obtain⟨y,hy,he⟩:=List.mem_map.1 this;obtain⟨e1,e2⟩:=Prod.mk.inj he;rw[<-e1,<-e2];exact hs y hy
theorem BF{C:Cx}[Mute C.Γ]{c':Code}{S:Sym}{t:Ct}{tm:T SV}{h:Hp}(hq:chk C.P none C.nt N (.run c') [] S t=true)(hc:C.c0=c')(hd:den C t S.c ρ Z)(ho:OkC C ρ Z S tm h):Runs C.P C.Γ (.code c' C.ro ⟨tm,C.nt,C.ms⟩ h) C.Φ:=by
 have:=iK (C:=C) (fn:=none) (λf hf=>by cases hf) N (.run c') [] S t hq ρ Z tm h hd ho (by subst hc;rfl);exact this
theorem lp(vals:List XV){args:List SV}{mem:List MI}{fm:List Asrt}{win:List (Nat×List XV)}{ta:Ct}(hq:chk P none nt N (.run asg) [] (Il (Ni (ps.toList.zip vals) (kg fr)) mem win c []) ta=true)(hw:∀x∈win,PtrTo Γ Z (ρ.r x.1) (svL ρ x.2))(hv:svL ρ vals=args)(hlen:Nat.beq vals.length ps.size=true)(hlt:(ps.toList.zip vals).all (λx=>Nat.blt x.1 nt)=true)
 {tm:T SV} {ρ0:Va} (hfr:fr.map (λx=>(x.1,x.2.sv ρ))=fr.map λx=>(x.1,x.2.sv ρ0)) (hf0:∀x∈fr,Fr.ev ⟨tm,nt,[]⟩ (.tmp x.1)=x.2.sv ρ0) (hmem:cR ρ mem=fm) (hd:den (rC P Γ asg B nt (d4 Z::l) (Km P Γ Z body B fJ inv e fQ qinv l)) ta c ρ Z):BW P Γ Z ps asg body nt tm args fm fJ inv e fQ qinv B l:=by
 refine⟨by rw[<-hv,gS];exact hlen,?_⟩;have hf:=zx hfr hf0;obtain⟨tm',e1,e2⟩:=Br hlt (gD hf);rw[Ca,hv]at e1;refine⟨_,e1,λh hs=>?_⟩;rw[<-hmem]at hs
 haveI:Mute (rC P Γ asg B nt (d4 Z::l) (Km P Γ Z body B fJ inv e fQ qinv l)).Γ:= ‹Mute Γ›
 exact BF (C:=rC P Γ asg B nt (d4 Z::l) (Km P Γ Z body B fJ inv e fQ qinv l)) hq rfl hd ⟨e2,ld.2 (mw.2 ⟨Sub.refl Z,hs⟩),λx hx=>(by cases hx),hw,rfl⟩
theorem yu{mem:List MI}{win:List (Nat×List XV)}{tb:Ct}(hq:chk P none nt N (.run body) [] (Il (kg fr) mem win c []) tb=true)(hw:∀x∈win,PtrTo Γ Z (ρ.r x.1) (svL ρ x.2))(hd:∀l,den (rC P Γ body B nt (d4 Z::l) (C3 Z fJ inv e fQ qinv l)) tb c ρ Z):den (rC P Γ asg B nt (d4 Z0::l) (Km P Γ Z0 body B fJ inv e fQ qinv l)) (.fin .normal fr mem) c ρ Z:=by
 intro tm h v hf hs;obtain⟨z,hs⟩:=mw.1 (ld.1 hs);refine⟨rfl,Z,z,cR ρ mem,hs,λl' h' hs'=>?_⟩
 haveI:Mute (rC P Γ body B nt (d4 Z::l') (C3 Z fJ inv e fQ qinv l')).Γ:= ‹Mute Γ›
 exact BF (C:=rC P Γ body B nt (d4 Z::l') (C3 Z fJ inv e fQ qinv l')) hq rfl (hd l') ⟨gD hf,ld.2 (mw.2 ⟨Sub.refl Z,hs'⟩),λx hx=>(by cases hx),hw,rfl⟩
theorem nS{mem:List MI}(y:α)(hy:inv y)(hm:cR ρ mem=fJ y):den (rC P Γ body B nt (d4 Z0::l) (C3 Z0 fJ inv e fQ qinv l)) (.fin .normal fr mem) c ρ Z:=have _:=(inferInstance:Mute Γ);λ_ _ _ _ hs=>let s:=mw.1 (ld.1 hs);⟨Z,s.1,.inl ⟨rfl,y,hy,by rw[<-hm];exact s.2⟩⟩
theorem OY{mem:List MI}(y:β)(hy:qinv y)(hm:cR ρ mem=fQ y):den (rC P Γ body B nt (d4 Z0::l) (C3 Z0 fJ inv e fQ qinv l)) (.fin e fr mem) c ρ Z:=λ_ _ _ _ hs=>let s:=mw.1 (ld.1 hs);⟨Z,s.1,.inr ⟨rfl,y,hy,by rw[<-hm];exact s.2⟩⟩
end
section
variable {C:Cx}[Mute C.Γ]{fn:Option Func}{Z:Hp}{ρ:Va}{K:Stk}{fr:List (Nat×XV)}{N:Nat}
def Cx.mark(C:Cx)(dm:Nat):Cx:={C with ms:=dm::C.ms}
def Jz(C:Cx)(ρ:Va)(Z:Hp)(K:Stk)(fr:List (Nat×XV))(m:List Asrt)(dm:Nat)(e:SExit):Prop:=∀tm,(∀x∈fr,Fr.ev ⟨tm,C.nt,C.ms⟩ (.tmp x.1)=x.2.sv ρ)->∀h v,St Z (own dm (.deferred true)::(m++C.l)) h->aft C.P C.Γ C.ro C.Φ K ⟨e,⟨tm,C.nt,dm::C.ms⟩,h,v⟩
def Az(P:Program)(fn:Option Func)(nt N:Nat)(c0:Code)(p:List Nat)(e:SExit)(S:Sym)(t:Ct):Bool:=match kat c0 p with
 |some (K,_)=>chk P fn nt N (.pop e) K S t
 |none=>false
def Fv(C:Cx)(ρ:Va)(Z:Hp)(p:List Nat)(fr:List (Nat×XV))(m:List Asrt)(dm:Nat)(e:SExit):Prop:=∀K c0,kat C.c0 p=some (K,c0)->Jz C ρ Z K fr m dm e
def rAt(c0:Code)(p:List Nat):Code:=match kat c0 p with
 |some (_,c)=>c
 |none=>.skip
def rG:Code->Operand
 | .rangeFunc g _ _ _=>g
 |_=>.tmp 0
def rPs:Code->Array Tmp
 | .rangeFunc _ ps _ _=>ps
 |_=>#[]
def Ou:Code->Code
 | .rangeFunc _ _ a _=>a
 |c=>c
def KY:Code->Code
 | .rangeFunc _ _ _ b=>b
 |c=>c
def A0(c0:Code)(p:List Nat):Bool:=match kat c0 p with
 |some (_,.rangeFunc ..)=>true
 |_=>false
theorem DJ{c0:Code}{p:List Nat}(h:A0 c0 p=true):∃K,kat c0 p=some (K,.rangeFunc (rG (rAt c0 p)) (rPs (rAt c0 p)) (Ou (rAt c0 p)) (KY (rAt c0 p))):=by
 unfold A0 at h;unfold rAt;cases hk:kat c0 p with
 |none=>rw[hk]at h;cases h
 |some x=>
  obtain⟨K,c⟩:=x;rw[hk]at h;cases c with
  |rangeFunc=>exact⟨K,rfl⟩
  |_=>cases h
theorem SJ(hroot:∀f,fn=some f->C.Φ=λo=>∃r,g8 C.P C.Γ f o=some [r]/\C.Post r.v r.hp){p:List Nat}{c0:Code}(hk:kat C.c0 p=some (K,c0)){m:List Asrt}{dm:Nat}{e:SExit}{fr':List (Nat×XV)}{mem:List MI}{win:List (Nat×List XV)}{c:Cnt}{mks:List Nat}{t:Ct}(ρ':Va)(hq:Az C.P fn C.nt N C.c0 p e (Il (kg fr') mem win c mks) t=true)
 (hf:fr'.map (λx=>(x.1,x.2.sv ρ'))=fr.map λx=>(x.1,x.2.sv ρ)) (hm:cR ρ' mem=own dm (.deferred true)::m) (hmk:dm::C.ms=mks.map ρ'.n) (hw:∀x∈win,PtrTo C.Γ Z (ρ'.r x.1) (svL ρ' x.2)) (hd:den (C.mark dm) t c ρ' Z):Jz C ρ Z K fr m dm e:=by
 intro tm hs h v hst;unfold Az at hq;rw[hk]at hq;have hs':∀x∈fr',Fr.ev ⟨tm,C.nt,dm::C.ms⟩ (.tmp x.1)=x.2.sv ρ':=λx hx=>by
  have:=List.mem_map_of_mem (f:=λx:Nat×XV=>(x.1,x.2.sv ρ')) hx;rw[hf]at this;obtain⟨y,hy,he⟩:=List.mem_map.1 this;obtain⟨e1,e2⟩:=Prod.mk.inj he;rw[<-e1,<-e2];exact hs y hy
 haveI:Mute (C.mark dm).Γ:= ‹Mute C.Γ›
 exact iK (C:=C.mark dm) (fn:=fn) hroot N (.pop e) K _ t hq ρ' Z tm h hd ⟨gD hs',by show St Z (cR ρ' mem++C.l) h;rw[hm];exact hst,λx hx=>(by cases hx),hw,hmk⟩ ⟨_,qQ hk⟩ v
theorem Hw{α β:Type}{p:List Nat}{mem:List MI}{c:Cnt}{g:Operand}{ps:Array Tmp}{asg body:Code}{f:FuncId}{xs ys:List SV}{n:Nat}{args:Nat->SV->List SV}{G:Nat->SV->List Asrt}{la lb:List Asrt}(hro:C.ro=none)(hk:kat C.c0 p=some (K,.rangeFunc g ps asg body))
 (hg:∀tm,(∀x∈fr,Fr.ev ⟨tm,C.nt,C.ms⟩ (.tmp x.1)=x.2.sv ρ)->Fr.ev ⟨tm,C.nt,C.ms⟩ g=.func (.func f) xs ys) (hseq:zO C.P C.Γ f xs ys n args G la lb) (m0:List Asrt) (fJ:α->List Asrt) (inv:Nat->α->Prop) (e:SExit) (he:(gl e).isNone=false) (fQ:β->List Asrt) (qinv:β->Prop)
 (hst:∀l h,St Z (cR ρ mem++l) h->St Z (la++(lb++(m0++l))) h) (h0:∀Z l h,St Z (lb++(m0++l)) h->∃x,inv 0 x/\St Z (fJ x++l) h)
 (hrd:∀k,k<n->∀rv x,inv k x->∀Z B l tm,(∀x∈fr,Fr.ev ⟨tm,C.nt,[]⟩ (.tmp x.1)=x.2.sv ρ)->BW C.P C.Γ Z ps asg body C.nt tm (args k rv) (G k rv++fJ x) fJ (inv (k+1)) e fQ qinv B l)
 (h1:∀Z x,inv n x->∀dm,Jz C ρ Z K fr (la++fJ x) dm .normal) (h2:∀Z x,qinv x->∀dm,Jz C ρ Z K fr (la++fQ x) dm e):den C (.stop p fr mem) c ρ Z:=by
 have _:=(inferInstance:Mute C.Γ);intro K' c' hk' tm h hs hst';obtain⟨rfl,rfl⟩:=Prod.mk.inj (ab (hk'.symm.trans hk));rw[hro];refine yi (hg tm hs) hseq m0 fJ inv e he fQ qinv (hst _ _ hst') h0 (λk hk rv x hx Z B l=>hrd k hk rv x hx Z B l tm hs) (λZ x hx dm h v hh=>?_) λZ x hx dm h v hh=>?_
 .rw[<-hro];exact h1 Z x hx dm tm hs h v (by rw[aC];exact hh)
 .rw[<-hro];exact h2 Z x hx dm tm hs h v (by rw[aC];exact hh)
theorem sZ(hroot:∀f,fn=some f->C.Φ=λo=>∃r,g8 C.P C.Γ f o=some [r]/\C.Post r.v r.hp){p:List Nat}{m:List Asrt}{dm:Nat}{e:SExit}{fr':List (Nat×XV)}{mem:List MI}{win:List (Nat×List XV)}{c:Cnt}{mks:List Nat}{t:Ct}(ρ':Va)(hq:Az C.P fn C.nt N C.c0 p e (Il (kg fr') mem win c mks) t=true)
 (hf:fr'.map (λx=>(x.1,x.2.sv ρ'))=fr.map λx=>(x.1,x.2.sv ρ)) (hm:cR ρ' mem=own dm (.deferred true)::m) (hmk:dm::C.ms=mks.map ρ'.n) (hw:∀x∈win,PtrTo C.Γ Z (ρ'.r x.1) (svL ρ' x.2)) (hd:den (C.mark dm) t c ρ' Z):Fv C ρ Z p fr m dm e:=λ_ _ hk=>SJ hroot hk ρ' hq hf hm hmk hw hd
theorem jJ{α β:Type}{p:List Nat}{mem:List MI}{c:Cnt}{f:FuncId}{xs ys:List SV}{n:Nat}{args:Nat->SV->List SV}{G:Nat->SV->List Asrt}{la lb:List Asrt}(hro:C.ro=none)(hk:A0 C.c0 p=true)(gi:Nat)(gv:XV)(hgi:rG (rAt C.c0 p)=.tmp gi)(hgv:gv.sv ρ=.func (.func f) xs ys)
 (hseq:zO C.P C.Γ f xs ys n args G la lb) (m0:List Asrt) (fJ:α->List Asrt) (inv:Nat->α->Prop) (e:SExit) (he:(gl e).isNone=false) (fQ:β->List Asrt) (qinv:β->Prop)
 (hst:∀l h,St Z (cR ρ mem++l) h->St Z (la++(lb++(m0++l))) h) (h0:∀Z l h,St Z (lb++(m0++l)) h->∃x,inv 0 x/\St Z (fJ x++l) h)
 (hrd:∀k,k<n->∀rv x,inv k x->∀Z B l tm,(∀x∈(gi,gv)::fr,Fr.ev ⟨tm,C.nt,[]⟩ (.tmp x.1)=x.2.sv ρ)->BW C.P C.Γ Z (rPs (rAt C.c0 p)) (Ou (rAt C.c0 p)) (KY (rAt C.c0 p)) C.nt tm (args k rv) (G k rv++fJ x) fJ (inv (k+1)) e fQ qinv B l)
 (h1:∀Z x,inv n x->∀dm,Fv C ρ Z p ((gi,gv)::fr) (la++fJ x) dm .normal) (h2:∀Z x,qinv x->∀dm,Fv C ρ Z p ((gi,gv)::fr) (la++fQ x) dm e):den C (.stop p ((gi,gv)::fr) mem) c ρ Z:=by
 obtain⟨K,hk⟩:=DJ hk;exact Hw hro hk (λtm hs=>by rw[hgi];exact(hs _ (ak ..)).trans hgv) hseq m0 fJ inv e he fQ qinv hst h0 hrd (λZ x hx dm=>h1 Z x hx dm _ _ hk) (λZ x hx dm=>h2 Z x hx dm _ _ hk)
end
theorem jY{P:Program}{Γ:Glob}{f:Func}{n:Nat}{ms:List Nat}{l:List Asrt}{Post:SV->Hp->Prop}:∀f',some f=some f'->(fnC P Γ f n ms l Post).Φ=λo=>∃r,g8 P Γ f' o=some [r]/\Post r.v r.hp:=λ_ hf=>by obtain rfl:=ab hf;rfl
section
variable {C:Cx}{c d d':Cnt}{ρ:Va}{Z:Hp}{t t':Ct}
end
section
variable {P:Program}{Z h:Hp}{l:List Asrt}{s:bn}
end
theorem qN{s:bn}(h:s=[]):(s.length:Int)=0:=by rw[h];rfl
theorem qE{s:bn}(h:¬s=[]):1<=(s.length:Int):=by
 have:=List.length_pos_iff.2 h;omega
@[simp] theorem Rp (l:bn) (i:Int):(bZ l i).length=l.length-i.toNat:=by rw[bZ,aR]
@[simp] theorem Ty (l:bn) (i:Int):(tTo l i).length=min i.toNat l.length:=by rw[tTo,aL]
@[simp] theorem S9 (l:bn) (i j:Int):(Fc l i j).length=min (j.toNat-i.toNat) (l.length-i.toNat):=by rw[Fc,aL,aR]
@[simp] theorem Ss {α:Type} (l:List α) (i:Int) (x:α):(Ak l i x).length=l.length:=List.length_set ..
section
variable {P:Program}{Γ:Glob}{Z h:Hp}{m:List Asrt}{e:TypeId}{size:Nat}{v:SV}{l:List (List SV)}
theorem xl:∀{l:List (List SV)} {j:Nat} {x y:List SV},(∀z∈l,z.length=size)->l[j]? =some x->y.length=size->(l.set j y).flatten=l.flatten.take (j*size)++y++l.flatten.drop (j*size+size)
 |[],_,_,_,_,h,_=>by simp at h
 |a::l,0,x,y,hl,h,hy=>by
  have ha:=hl a (ak ..);simp only[List.set_cons_zero,aZ,Nat.zero_mul,aX,List.take_zero,List.nil_append];rw[<-ha,List.drop_left]
 |a::l,j+1,x,y,hl,h,hy=>by
  have ha:=hl a (ak ..);have ih:=xl (l:=l) (j:=j) (x:=x) (y:=y) (λz hz=>hl z (am _ hz)) (by simpa using h) hy;simp only[List.set_cons_succ,aZ,ih];rw[show(j+1)*size=a.length+j*size by rw[Nat.succ_mul,ha];omega,show a.length+j*size+size=a.length+(j*size+size) by omega,List.take_append,List.drop_append];simp only[aC];rw[List.take_of_length_le (show a.length<=a.length+j*size by omega),List.drop_eq_nil_of_le (show a.length<=a.length+(j*size+size) by omega)];simp only[Nat.add_sub_cancel_left,List.nil_append]
theorem F4{α:Type}(F:List α){q n:Nat}(h:q<=n):(F.take n).drop q++F.drop n=F.drop q:=by
 rw[List.drop_take]
 conv=>rhs;rw[<-List.take_append_drop (n-q) (F.drop q),List.drop_drop,show q+(n-q)=n by omega]
theorem Hx{α:Type}(F:List α)(a k:Nat):F.take a++(F.drop a).take k=F.take (a+k):=(List.take_add ..).symm
theorem AW{t:TypeId}{j k:Nat}{x:List SV}{w:SV}(ht:bI P t=some w.cells.length)(s:St Z (dL e size v l::m) h)(hx:l[j]? =some x)(hk:k+w.cells.length<=size)(hone:w.cells.all SV.one=true):
 ∃H,dA P h t (elP v (j*size+k)) w=some H/\h.next<=H.next/\St Z (dL e size v (l.set j (x.take k++w.cells++x.drop (k+w.cells.length)))::m) H:=by
 obtain⟨hall,hh⟩:=dR s;have hxs:=hall x (aW hx);generalize hc:w.cells=c at ht hk hone⊢;generalize hy:x.take k++c++x.drop (k+c.length)=y;have hyl:y.length=size:=by
  rw[<-hy];simp only[ac,aL,aR];omega
 have hyo:y.all SV.one=true:=by
  rw[<-hy];simp only[List.all_append,a8];refine⟨⟨aE.2 λz hz=>aE.1 hxs.2 z (List.mem_of_mem_take hz),hone⟩,aE.2 λz hz=>aE.1 hxs.2 z (List.mem_of_mem_drop hz)⟩
 have hnew:∀z∈l.set j y,z.length=size/\z.all SV.one=true:=λz hz=>by
  rcases List.mem_or_eq_of_mem_set hz with hz|rfl
  .exact hall z hz
  .exact⟨hyl,hyo⟩
 have hlens:=λz hz=>(hall z hz).1;have hfl:=el hlens;have hj:=(List.getElem?_eq_some_iff.1 hx).1;obtain⟨f1,f2⟩:=wc hlens hx;have hfs:=xl (y:=y) hlens hx hyl;have hjs:(j+1)*size<=l.length*size:=Nat.mul_le_mul_right _ hj;rw[Nat.succ_mul]at hjs;have key:∀cs:List SV,l.length*size<=cs.length->cs.take (l.length*size)=l.flatten->∃cs',cH cs (j*size+k) c=some cs'/\cs'.length=cs.length/\cs'.take ((l.set j y).length*size)=(l.set j y).flatten:=λcs hlen ht=>by
  refine⟨_,iJ bj hone,?_,?_⟩
  .simp only[ac,aL,aR];omega
  .rw[List.length_set,hfs,<-ht];rw[ht];generalize hF:l.flatten=F at*;generalize j*size=a at*;generalize l.length*size=N at*;have e1:x.take k=(F.drop a).take k:=by rw[<-f1,List.take_take,Nat.min_eq_left bj]
   have e2:x.drop (k+c.length)++F.drop (a+size)=F.drop (a+(k+c.length)):=by
    rw[<-f1,show F.drop (a+size)=(F.drop a).drop size by rw[List.drop_drop],show F.drop (a+(k+c.length))=(F.drop a).drop (k+c.length) by rw[List.drop_drop]];exact F4 _ bj
   rw[<-hy,e1,show F.take a++((F.drop a).take k++c++x.drop (k+c.length))++F.drop (a+size)=(F.take a++(F.drop a).take k)++c++(x.drop (k+c.length)++F.drop (a+size)) by simp only[aC],e2,Hx,<-ht];rw[List.take_append,List.take_of_length_le (by simp only[ac,aL];omega),List.take_take,Nat.min_eq_left bj,List.drop_take];simp only[ac,aL,Nat.min_eq_left (show a+k<=cs.length by omega),Nat.add_assoc]
 rcases hh with⟨_,rfl,_⟩|⟨b,o,hb,hbn,⟨cs,⟨q,rfl,c1,c2,ho,hcs⟩|⟨q,rfl,c1,ho,hcs⟩,a4⟩,s'⟩
 .simp at hx
 .obtain rfl:=ab ho;have hq:l.length*size<=q*size:=Nat.mul_le_mul_right _ c1;obtain⟨cs',k1,k2,k3⟩:=key cs bj a4;refine⟨h.upd b (.cells cs' e),?_,av _,ee hnew (St.upd (l:=[]) s') ⟨cs',.inl ⟨q,by rw[List.length_set],by rw[List.length_set];exact c1,c2,rfl,by rw[k2];exact hcs⟩,k3⟩⟩;simp only[dA,ht,elP,hc,jL rfl,bf,hb,aX,k1,af]
 .obtain rfl:=ab ho;obtain⟨cs',k1,k2,k3⟩:=key cs hcs a4;refine⟨h.upd b (.row cs' e q b size),?_,av _,ee hnew (St.upd (l:=[]) s') ⟨cs',.inr ⟨q,by rw[List.length_set],by rw[List.length_set];exact c1,rfl,by rw[List.length_set,k2];exact hcs⟩,k3⟩⟩;simp only[dA,ht,elP,hc,jL rfl,bf,hb,aX,k1,af]
end
section
variable {P:Program}{Γ:Glob}{Z h:Hp}{m:List Asrt}{e:TypeId}{size:Nat}{v:SV}{α:Type}{enc:α->List SV}{L:List α}
theorem LC[Inhabited α]{t:TypeId}{i:Int}{w:SV}{y:α}(ht:bI P t=some w.cells.length)(s:St Z (lsA e size enc v L::m) h)(h0:0<=i)(h1:i<L.length)(hk:w.cells.length=size)(hone:w.cells.all SV.one=true)(hy:w.cells=enc y):
 ∃(_:Unit) (H:Hp),mi (dA P h t (oneS (elP v (i.toNat*size))) w)=some [(.lit undef,H)]/\h.next<=H.next/\True/\St Z (lsA e size enc v (Ak L i y)::m) H:=by
 obtain⟨H,h2,h3,h4⟩:=AW (k:=0) ht s (pW h0 h1) bj hone;refine⟨(),H,by rw[qJ];rw[Nat.add_zero]at h2;rw[h2];rfl,h3,trivial,?_⟩;simp only[List.take_zero,List.nil_append,aX]at h4;have hx:=(dR s).1 _ (aW (pW (enc:=enc) h0 h1));rw[List.drop_eq_nil_of_le bj,List.append_nil,hy]at h4;simp only[lsA,Ak,List.map_set];exact h4
def byE(b:UInt8):List SV:=[.lit (.int .u8 b.toNat)]
theorem mu{z:Int}(h0:0<=z)(h1:z<256):[SV.lit (.int .u8 z)]=byE (UInt8.ofNat z.toNat):=by
 have h:((UInt8.ofNat z.toNat).toNat:Int)=z:=by
  have:(UInt8.ofNat z.toNat).toNat=z.toNat%256:=by simp
  omega
 simp only[byE,h]
theorem zu:∀L:bn,(L.map byE).flatten=L.map λb=>.lit (.int .u8 b.toNat)
 |[]=>rfl
 |b::L=>by rw[ax,aZ,zu L];rfl
theorem zd{sT dT:TypeId}{L:bn}(hs:tyU P sT=some .string)(hd:tyU P dT=some (.slice e))(he:tyU P e=some (.int .u8))(hc:eb P Γ h sT dT (sV L)=none)(s:St Z m h):
 ∃v' H,(bif(eb P Γ h sT dT (sV L)).isNone then val (k8 P h sT dT (sV L))else none)=some [(oneS v',H)]/\h.next<=H.next/\True/\St Z (lsA e 1 byE (oneS v') L::m) H:=by
 have hv:oneS (.row h.next 0 L.length L.length h.next)=.row h.next 0 L.length L.length h.next:=cm rfl (by simp only[SV.same,bb,aF]);refine⟨.row h.next 0 L.length L.length h.next,⟨h.objs.set h.next (.row (L.map λb=>.lit (.int .u8 b.toNat)) e L.length h.next 1),h.next+1⟩,?_,Nat.le_succ _,trivial,?_⟩
 .rw[hv,hc];simp only[k8,hs,hd,he];rfl
 .rw[hv];refine ee (λx hx=>?_) s.new ⟨_,.inr ⟨L.length,by rw[ao],by rw[ao];exact av _,rfl,by rw[ao,ao,Nat.mul_one];exact av _⟩,?_⟩
  .obtain⟨b,_,rfl⟩:=List.mem_map.1 hx;exact⟨rfl,rfl⟩
  .rw[zu,ao,Nat.mul_one,List.take_of_length_le (by rw[ao];exact av _)]
end
end Go.Proofs.YtbhokokpplmigaaGreatDoor.Sx
