/-
  A part of the proof of FileReads; no condition.
-/
import Derived.Test.YtbhokokpplmigaaGreatDoorFaGI
import Derived.Test.YtbhokokpplmigaaGreatDoorFrGA
import Derived.Test.YtbhokokpplmigaaGreatDoorSxGF
set_option linter.all false
namespace Go.Proofs.YtbhokokpplmigaaGreatDoor.Sx
open Go Go.Proofs.YtbhokokpplmigaaGreatDoor.Ev
theorem KO{α:Type}{Z h:Hp}{m:List Asrt}{e:TypeId}{size:Nat}{enc:α->List SV}{v:SV}{L L':List α}(hL:L=L')(s:St Z (lsA e size enc v L::m) h):St Z (lsA e size enc v L'::m) h:=by rw[<-hL];exact s
abbrev CK:=Int×Int×Int×Int
def clK(a:CK):SV:=.agg [iV a.1,iV a.2.1,iV a.2.2.1,iV a.2.2.2]
noncomputable def MO:Array Field:=match Tryz.prog.underlying 45 with
 |some (.struct fs)=>fs
 |_=>#[]
noncomputable def clF(i:Nat):Field:=match MO[i]? with
 |some f=>f
 |none=>default
theorem Kc:MO=#[clF 0,clF 1]:=bm
theorem clU:pureRun Tryz.prog (underlying 45)=some (.struct MO):=bm
theorem NF:Tryz.prog.stoodInHeld 45=false:=bm
theorem RR:(decide ((clF 0).name≠ "_"))=true:=bm
theorem RJ:(decide ((clF 1).name≠ "_"))=true:=bm
theorem Rx:(clF 0).type=43:=bm
theorem SW:(clF 1).type=43:=bm
theorem Ry(a b c d:Int):pureRun Tryz.prog (part 43 #[.int .i64 a,.int .i64 b,.int .i64 c,.int .i64 d] (clF 0).offset)=some (.agg #[.int .i64 a,.int .i64 b]):=bm
theorem P7(a b c d:Int):pureRun Tryz.prog (part 43 #[.int .i64 a,.int .i64 b,.int .i64 c,.int .i64 d] (clF 1).offset)=some (.agg #[.int .i64 c,.int .i64 d]):=bm
theorem yK(a b:Int):pureRun Tryz.prog (Op.equalIn 9998 3 (.int .i64 a) (.int .i64 b))=some (a==b):=bm
set_option maxRecDepth 100000 in
theorem Hy(a b c d:Int):pureRun Tryz.prog (Op.equalIn 9999 43 (.agg #[.int .i64 a,.int .i64 b]) (.agg #[.int .i64 c,.int .i64 d]))=some ((a==c)&&(b==d)):=by
 have n0:(idF 0).name≠ "_" :=of_decide_eq_true QZ;have n1:(idF 1).name≠ "_" :=of_decide_eq_true Qa;have hp:pureRun Tryz.prog program=some Tryz.prog:=rfl;show pureRun Tryz.prog (Op.equalIn (9998+1) 43 (.agg #[.int .i64 a,.int .i64 b]) (.agg #[.int .i64 c,.int .i64 d]))=_;rw[Op.equalIn,cG,idU];simp only[ay];rw[cG,hp];simp only[ay,HL,aA,if_false];rw[cG,B6,List.forIn_toArray];simp only[List.forIn_cons,List.forIn_nil];simp only[bi n0,bi n1,cG,fv,Oe,Ik,ay,PO,Oi,yK];cases(a==c)with
 |false=>rfl
 |true=>
  simp only[Bool.not_true,aA,if_false,fv,ay,cG,Ik,yK];cases(b==d)<;>rfl
set_option maxRecDepth 100000 in
theorem RO(a b c d e f g h:Int):pureRun Tryz.prog (Op.equal 45 (.agg #[.int .i64 a,.int .i64 b,.int .i64 c,.int .i64 d]) (.agg #[.int .i64 e,.int .i64 f,.int .i64 g,.int .i64 h]))=some (((a==e)&&(b==f))&&((c==g)&&(d==h))):=by
 have n0:(clF 0).name≠ "_" :=of_decide_eq_true RR;have n1:(clF 1).name≠ "_" :=of_decide_eq_true RJ;have hp:pureRun Tryz.prog program=some Tryz.prog:=rfl;show pureRun Tryz.prog (Op.equalIn (9999+1) 45 (.agg #[.int .i64 a,.int .i64 b,.int .i64 c,.int .i64 d]) (.agg #[.int .i64 e,.int .i64 f,.int .i64 g,.int .i64 h]))=_;rw[Op.equalIn,cG,clU];simp only[ay];rw[cG,hp];simp only[ay,NF,aA,if_false];rw[cG,Kc,List.forIn_toArray];simp only[List.forIn_cons,List.forIn_nil];simp only[bi n0,bi n1,cG,fv,Ry,P7,ay,Rx,SW,Hy];cases((a==e)&&(b==f))with
 |false=>rfl
 |true=>
  simp only[Bool.not_true,aA,if_false,fv,ay,cG,P7,Hy];cases((c==g)&&(d==h))<;>rfl
theorem NY(e:Bool)(a b c d:Int):pureRun Tryz.prog (Instr.checkKey e 10000 45 (.agg #[.int .i64 a,.int .i64 b,.int .i64 c,.int .i64 d]))=some ():=bm
theorem lU:KeyOk Tryz.prog 45 clK where
 lit a:=⟨.agg #[.int .i64 a.1,.int .i64 a.2.1,.int .i64 a.2.2.1,.int .i64 a.2.2.2],rfl,λe=>NY e _ _ _ _,by simp[Instr.sameBits]⟩
 eq a b v w hv hw:=by
  obtain rfl:Value.agg #[.int .i64 a.1,.int .i64 a.2.1,.int .i64 a.2.2.1,.int .i64 a.2.2.2]=v:=ab hv;obtain rfl:Value.agg #[.int .i64 b.1,.int .i64 b.2.1,.int .i64 b.2.2.1,.int .i64 b.2.2.2]=w:=ab hw;rw[RO];obtain⟨a1,a2,a3,a4⟩:=a;obtain⟨b1,b2,b3,b4⟩:=b;by_cases h1:a1=b1<;>by_cases h2:a2=b2<;>by_cases h3:a3=b3<;>by_cases h4:a4=b4<;>simp[h1,h2,h3,h4]
structure CT where
 k:Int
 vk:Int
 m:Int
 e:Int
 t:bn
 b:Bool
 f:Int
 x:ND
 ks:List Tr
 K:SV
instance:Inhabited CT:=⟨⟨0,0,0,0,[],false,0,ndZ,[],.lit (.slice none 0 0)⟩⟩
def ctE(c:CT):SV:=.agg ([iV c.k,iV c.vk,iV c.m,iV c.e,sV c.t,bV c.b,iV c.f]++c.x.cells (oneS c.K))
structure NT where
 x:ND
 ks:List Tr
 K:SV
instance:Inhabited NT:=⟨⟨ndZ,[],.lit (.slice none 0 0)⟩⟩
def ntE(c:NT):SV:=.agg (c.x.cells (oneS c.K))
structure TreeOk(Γ:Glob)(Z:Hp)(K:SV)(ks:List Tr):Prop where
 k:KidsOf Γ Z (oneS K) ks
 n:NilK K ks
def CtAll(Γ:Glob)(M:List (CK×CT))(Z:Hp):Prop:=∀y∈M,TreeOk Γ Z y.2.K y.2.ks
def NtAll(Γ:Glob)(M:List (bn×NT))(Z:Hp):Prop:=∀y∈M,KidsOf Γ Z (oneS y.2.K) y.2.ks
theorem CtAll.sub{Γ:Glob}{M:List (CK×CT)}{Z Z':Hp}(z:Sub Z Z')(w:CtAll Γ M Z):CtAll Γ M Z':=λy hy=>⟨(w y hy).k.sub z,(w y hy).n⟩
theorem NtAll.sub{Γ:Glob}{M:List (bn×NT)}{Z Z':Hp}(z:Sub Z Z')(w:NtAll Γ M Z):NtAll Γ M Z':=λy hy=>(w y hy).sub z
def ctA(Γ:Glob)(M:List (CK×CT)):Asrt:=frA (CtAll Γ M) λz w=>w.sub z
def ntA(Γ:Glob)(M:List (bn×NT)):Asrt:=frA (NtAll Γ M) λz w=>w.sub z
section
variable {κ α:Type}[DecidableEq κ]{L:List (κ×α)}{k:κ}{x:α}
theorem oJ:∀{L:List (κ×α)} {x:α},dZ L k=some x->(k,x)∈L
 |[],_,h=>by cases h
 |(a,y)::l,x,h=>by
  rw[dZ]at h;split at h
  .rename_i e;cases h;rw[e];exact ak ..
  .exact am _ (oJ h)
theorem ny[Inhabited α](h:iA L k=true):(k,mget L k)∈L:=by
 unfold iA at h;cases e:dZ L k with
 |none=>rw[e]at h;cases h
 |some x=>
  rw[mget,e];exact oJ e
theorem r7{y:κ×α}:∀{L:List (κ×α)},y∈gb L k x->y=(k,x)\/y∈L
 |[],h=>.inl (List.mem_singleton.1 h)
 |(a,z)::l,h=>by
  rw[gb]at h;split at h
  .rcases aD.1 h with h|h
   .exact .inl h
   .exact .inr (am _ h)
  .rcases aD.1 h with h|h
   .exact .inr (by rw[h];exact ak ..)
   .exact(r7 h).imp id λh=>am _ h
end
section
variable {κ α:Type}[DecidableEq κ]{P:Program}{Γ:Glob}{Z h:Hp}{m:List Asrt}{kt vt:TypeId}{kc:κ->SV}{ve:α->SV}{M:Nat}{L:List (κ×α)}
theorem Gb(s:St Z (mpA kc ve M L::m) h):M<h.next:=by
 obtain⟨D,h1,⟨h2,_⟩,_⟩:=s.sep;exact(h1 M ((h2 M).2 rfl)).2
theorem pM[Inhabited α]{t:TypeId}{k:κ}(ht:tyU P t=some (.map kt vt))(K:KeyOk P kt kc)(hk:iA L k=true)(s:St Z (mpA kc ve M L::m) h):True/\∃fs,dC P h t (.map M) (kc k) true=some (.tuple [ve (mget L k),bV true],fs):=by
 obtain⟨g1,g2⟩:=vd (k:=k) ht K s;unfold iA at hk;cases e:dZ L k with
 |none=>rw[e]at hk;cases hk
 |some x=>
  obtain⟨fs,hf⟩:=g1 x e;exact⟨trivial,fs,by rw[hf,mget,e];rfl⟩
theorem Cf{t:TypeId}{k:κ}{z:Value}(ht:tyU P t=some (.map kt vt))(K:KeyOk P kt kc)(hz:dB P vt=some z)(hk:¬iA L k=true)(s:St Z (mpA kc ve M L::m) h):True/\∃fs,dC P h t (.map M) (kc k) true=some (.tuple [.lit z,bV false],fs):=by
 obtain⟨g1,g2⟩:=vd (k:=k) ht K s;unfold iA at hk;cases e:dZ L k with
 |none=>
  obtain⟨fs,hf⟩:=g2 e z hz;exact⟨trivial,fs,by rw[hf];rfl⟩
 |some x=>rw[e]at hk;exact absurd rfl hk
end
section
variable {Γ:Glob}{Z h:Hp}{m:List Asrt}{M:List (CK×CT)}{N:List (bn×NT)}{k:CK}{nm:bn}{p:Nat}
theorem zq:St Z (ctA Γ M::m) h↔(∀y∈M,TreeOk Γ Z y.2.K y.2.ks)/\St Z m h:=cX
theorem yX:St Z (ntA Γ N::m) h↔(∀y∈N,KidsOf Γ Z (oneS y.2.K) y.2.ks)/\St Z m h:=cX
theorem wd{L:SV}{ks:List Tr}:St Z (br Γ L ks::m) h↔KidsOf Γ Z L ks/\St Z m h:=cX
theorem LL(s:St Z m h):St Z (ctA Γ []::m) h:=zq.2 ⟨(λy hy=>by cases hy),s⟩
theorem NP(s:St Z m h):St Z (ntA Γ []::m) h:=yX.2 ⟨(λy hy=>by cases hy),s⟩
theorem Ag{c:CT}(hn:NilK c.K c.ks)(s:St Z (ctA Γ M::br Γ (oneS c.K) c.ks::m) h):St Z (ctA Γ (mset M k c)::br Γ (oneS c.K) c.ks::m) h:=by
 have w:=(zq.1 s).1;have w2:=(wd.1 s.rot1).1;refine zq.2 ⟨λy hy=>?_,(zq.1 s).2⟩;rw[lP]at hy;rcases r7 hy with rfl|hy
 .exact⟨w2,hn⟩
 .exact w y hy
theorem AM{c:NT}(s:St Z (ntA Γ N::br Γ (oneS c.K) c.ks::m) h):St Z (ntA Γ (mset N nm c)::br Γ (oneS c.K) c.ks::m) h:=by
 have w:=(yX.1 s).1;have w2:=(wd.1 s.rot1).1;refine yX.2 ⟨λy hy=>?_,(yX.1 s).2⟩;rw[lP]at hy;rcases r7 hy with rfl|hy
 .exact w2
 .exact w y hy
theorem Lv(hk:iA M k=true)(s:St Z (ctA Γ M::m) h):NilK (mget M k).K (mget M k).ks/\St Z (ctA Γ M::br Γ (oneS (mget M k).K) (mget M k).ks::m) h:=by
 have w:=(zq.1 s).1 _ (ny hk);exact⟨w.n,St.rot1 (wd.2 ⟨w.k,s⟩)⟩
theorem M7(hk:iA N nm=true)(s:St Z (ntA Γ N::m) h):True/\St Z (ntA Γ N::br Γ (oneS (mget N nm).K) (mget N nm).ks::m) h:=by
 have w:=(yX.1 s).1 _ (ny hk);exact⟨trivial,St.rot1 (wd.2 ⟨w,s⟩)⟩
def stM(Γ:Glob)(p:Nat)(M:List (CK×CT)):Asrt:=exA λMM:Nat=>jx (own p (.cells [.map MM] 103)) (jx (mpA clK ctE MM M) (ctA Γ M))
def stN(p:Nat)(M:List (CK×CT)):Asrt:=jx (own p (.cells [.lit (.map none)] 103)) (puA (M=[]))
def stA(p:Nat)(Γ:Glob)(M:List (CK×CT)):Asrt:=exA λq:Bool=>yA q (stM Γ p M) (stN p M)
theorem pP(s:St Z (stA p Γ M::m) h):∃q:Bool,True/\St Z (yA q (stM Γ p M) (stN p M)::m) h:=(eL.1 s).imp λ_ s=>⟨trivial,s⟩
theorem v7{q:Bool}(hq:q=true)(s:St Z (yA q (stM Γ p M) (stN p M)::m) h):∃MM:Nat,True/\St Z (own p (.cells [.map MM] 103)::mpA clK ctE MM M::ctA Γ M::m) h:=by
 obtain⟨MM,s⟩:=eL.1 (EA hq s);exact⟨MM,trivial,((cO.1 (cO.1 s).rot1).perm (by
  exact List.perm_middle (l₁:=[_,_])))⟩
theorem Cg{q:Bool}(hq:¬q=true)(s:St Z (yA q (stM Γ p M) (stN p M)::m) h):M=[]/\St Z (own p (.cells [.lit (.map none)] 103)::m) h:=by
 have s:=cO.1 (C9 hq s);exact i1.1 s.rot1
theorem gI{MM:Nat}(s:St Z (own p (.cells [.map MM] 103)::mpA clK ctE MM M::ctA Γ M::m) h):St Z (stA p Γ M::m) h:=
 eL.2 ⟨true,eL.2 ⟨MM,cO.2 (St.rot1 (cO.2 (s.perm (by
  refine(List.Perm.swap _ _ _).trans (List.Perm.cons _ ?_);exact List.Perm.swap _ _ _))))⟩⟩
theorem D0(s:St Z (own p (.cells [.lit (.map none)] 103)::m) h):St Z (stA p Γ []::m) h:=
 eL.2 ⟨false,cO.2 (St.rot1 (i1.2 ⟨rfl,s⟩))⟩
theorem ur(hM:M=[])(s:St Z (own p (.cells [.lit (.map none)] 103)::m) h):St Z (stA p Γ M::m) h:=by rw[hM];exact D0 s
def tbM(Γ:Glob)(p:Nat)(N:List (bn×NT)):Asrt:=exA λMM:Nat=>jx (own p (.cells [.map MM] 106)) (jx (mpA tK ntE MM N) (ntA Γ N))
def tbN(p:Nat)(N:List (bn×NT)):Asrt:=jx (own p (.cells [.lit (.map none)] 106)) (puA (N=[]))
def tbA(p:Nat)(Γ:Glob)(N:List (bn×NT)):Asrt:=exA λq:Bool=>yA q (tbM Γ p N) (tbN p N)
theorem wh(s:St Z (tbA p Γ N::m) h):∃q:Bool,True/\St Z (yA q (tbM Γ p N) (tbN p N)::m) h:=(eL.1 s).imp λ_ s=>⟨trivial,s⟩
theorem AG{q:Bool}(hq:q=true)(s:St Z (yA q (tbM Γ p N) (tbN p N)::m) h):∃MM:Nat,True/\St Z (own p (.cells [.map MM] 106)::mpA tK ntE MM N::ntA Γ N::m) h:=by
 obtain⟨MM,s⟩:=eL.1 (EA hq s);exact⟨MM,trivial,((cO.1 (cO.1 s).rot1).perm (by
  exact List.perm_middle (l₁:=[_,_])))⟩
theorem GS{q:Bool}(hq:¬q=true)(s:St Z (yA q (tbM Γ p N) (tbN p N)::m) h):N=[]/\St Z (own p (.cells [.lit (.map none)] 106)::m) h:=by
 have s:=cO.1 (C9 hq s);exact i1.1 s.rot1
theorem gF{MM:Nat}(s:St Z (own p (.cells [.map MM] 106)::mpA tK ntE MM N::ntA Γ N::m) h):St Z (tbA p Γ N::m) h:=
 eL.2 ⟨true,eL.2 ⟨MM,cO.2 (St.rot1 (cO.2 (s.perm (by
  refine(List.Perm.swap _ _ _).trans (List.Perm.cons _ ?_);exact List.Perm.swap _ _ _))))⟩⟩
theorem DT(s:St Z (own p (.cells [.lit (.map none)] 106)::m) h):St Z (tbA p Γ []::m) h:=
 eL.2 ⟨false,cO.2 (St.rot1 (i1.2 ⟨rfl,s⟩))⟩
theorem s8(hM:N=[])(s:St Z (own p (.cells [.lit (.map none)] 106)::m) h):St Z (tbA p Γ N::m) h:=by rw[hM];exact DT s
end
set_option maxRecDepth 20000
set_option maxHeartbeats 4000000
variable (Γ:Glob)[Mute Γ]{Z0 h:Hp}{l:List Asrt}
theorem Pq{P:Prop}(h:P:=by first|assumption|exact gV):P:=h
theorem P8{P:Prop}(h:P:=by first|rfl|(obtain⟨rfl,rfl⟩:=hx (by assumption);rfl)):P:=h
theorem Ol{P:Prop}(h:P:=by first|exact hs|(obtain⟨rfl,rfl⟩:=hx (by assumption);exact hs)):P:=h
abbrev Pc(Γ:Glob)(k vk:Int)(m e:Int)(s:bn)(b0:Bool)(f:Int)(x:ND)(K:SV)(ks:List Tr):TG:=λl Zq vq hq=>∃w:SV,(NilK w ks)/\vq=.agg [iV k,iV vk,iV m,iV e,sV s,bV b0,iV f,iV x.k,iV x.v0,iV x.v1,iV x.v2,sV x.v3,bV x.v4,iV x.v5,sV x.name,iV x.a0,iV x.a1,iV x.a2,iV x.a3,bV x.a4,bV x.a5,iV x.b0,iV x.b1,iV x.b2,iV x.b3,bV x.b4,bV x.b5,iV x.rows,(oneS w)]/\St Zq (br Γ (oneS K) ks::br Γ (oneS w) ks::l) hq
theorem Bm(k vk:Int)(m e:Int)(s:bn)(b0:Bool)(f:Int)(x:ND)(K:SV)(ks:List Tr)(hx:k≠2->x=nd0/\ks=[])(hz:(sizeL ks:Int)<=5000)(hn:NilK K ks)(hs:St Z0 (br Γ (oneS K) ks::l) h):RC Γ Z0 49 [.agg [iV k,iV vk,iV m,iV e,sV s,bV b0,iV f,iV x.k,iV x.v0,iV x.v1,iV x.v2,sV x.v3,bV x.v4,iV x.v5,sV x.name,iV x.a0,iV x.a1,iV x.a2,iV x.a3,bV x.a4,bV x.a5,iV x.b0,iV x.b1,iV x.b2,iV x.b3,bV x.b4,bV x.b5,iV x.rows,(oneS K)]] h (Pc Γ k vk m e s b0 f x K ks l):=by
 refine bL Tryz.f49 Tryz.func49 [.agg [vI 0,vI 1,vI 2,vI 3,vT 0,vB 0,vI 4,vI 5,vI 6,vI 7,vI 8,vT 1,vB 1,vI 9,vT 2,vI 10,vI 11,vI 12,vI 13,vB 2,vB 3,vI 14,vI 15,vI 16,vI 17,vB 4,vB 5,vI 18,.raw 0]] [.asr 0] ⟨19,3,6,1,0,1⟩ (va {i:=[k,vk,m,e,f,x.k,x.v0,x.v1,x.v2,x.v5,x.a0,x.a1,x.a2,x.a3,x.b0,x.b1,x.b2,x.b3,x.rows],t:=[s,x.v3,x.name],b:=[b0,x.v4,x.a4,x.a5,x.b4,x.b5],r:=[K],a:=[br Γ (oneS K) ks]}) (.new<|.new<|.fork (.eq (.v 0) (.z 2)) (.call 84 [.agg (nX 5 1 1 (.raw 0)),.lit .nilFunc] [.asr 0] (.agg (nX 19 3 6 (.raw 1))) [.asr 1,.asr 2] ⟨33,5,11,2,2,3⟩<|.ret (.agg [vI 0,vI 1,vI 2,vI 3,vT 0,vB 0,vI 4,vI 19,vI 20,vI 21,vI 22,vT 3,vB 6,vI 23,vT 4,vI 24,vI 25,vI 26,vI 27,vB 7,vB 8,vI 28,vI 29,vI 30,vI 31,vB 9,vB 10,vI 32,.raw 1]) [.asr 1,.asr 2])<|.swap [] [.asr 1] ⟨19,3,6,1,2,2⟩<|.ret (.agg [vI 0,vI 1,vI 2,vI 3,vT 0,vB 0,vI 4,Fd,Fd,Fd,Fd,.txt (.tl []),TA,Fd,.txt (.tl []),Fd,Fd,Fd,Fd,TA,TA,Fd,Fd,Fd,Fd,TA,TA,Fd,.lit mt]) [.asr 0,.asr 1]) hs ?_;refine bA λbk0=>?_;refine bA λbk1=>?_;refine bo (k=2) rfl (λcd1=>?_) λcd1=>?_
 .refine bS (λ(w0:SV)=>{TD x w0 with a:=[br Γ (oneS K) ks,br Γ (oneS w0) ks]}) _ (λ_ _=>SS Γ x K ks TJ TJ) λZ w0 qd0=>?_;exact an λh hs=>⟨w0,Pq,P8,Ol⟩
 .refine dsU {a:=[br Γ (oneS (.lit mt)) ([]:List Tr)]} (λl h hs=>cD (hs) (l:=l) (h:=h)) ?_;exact an λh hs=>⟨(.lit mt),Pq,P8,Ol⟩
abbrev PR(Γ:Glob)(a0 a1:Int)(a2 a3:Int):TG:=λl Zq vq hq=>(True)/\vq=bV (!decide (a0=0/\a1=0)&& !decide (a2=0/\a3=0))/\St Zq (l) hq
theorem Q7(a0 a1:Int)(a2 a3:Int)(hs:St Z0 (l) h):RC Γ Z0 65 [.agg [iV a0,iV a1,iV a2,iV a3]] h (PR Γ a0 a1 a2 a3 l):=by
 refine bL Tryz.f65 Tryz.func65 [.agg [vI 0,vI 1,vI 2,vI 3]] [] ⟨4,0,0,0,0,0⟩ (va {i:=[a0,a1,a2,a3]}) (.new<|.fork (.and (.eq (.v 0) (.z 0)) (.eq (.v 1) (.z 0))) (.ret (TA) [])<|.ret (.bool (.not (.and (.eq (.v 2) (.z 0)) (.eq (.v 3) (.z 0))))) []) hs ?_;refine bA λbk0=>?_;refine bo ((a0=0)/\(a1=0)) rfl (λcd1=>?_) λcd1=>?_
 .exact an λh hs=>⟨TH,by first|rfl|(show(bV false:SV)=_;clear hs;simp[*];done)|(show(bV false:SV)=_;clear hs;simp_all;done),hs⟩
 .exact an λh hs=>⟨TH,by first|rfl|(show(bV (!((decide (a2=0))&&(decide (a3=0)))):SV)=_;clear hs;simp[*];done)|(show(bV (!((decide (a2=0))&&(decide (a3=0)))):SV)=_;clear hs;simp_all;done),hs⟩
abbrev QO:List XV:=[vI 42,vI 43,vI 44,vI 45,vT 6,vB 16,vI 46,vI 47,vI 48,vI 49,vI 50,vT 7,vB 17,vI 51,vT 8,vI 52,vI 53,vI 54,vI 55,vB 18,vB 19,vI 56,vI 57,vI 58,vI 59,vB 20,vB 21,vI 60,.raw 2]
abbrev Ov:List XV:=[vI 24,vI 25,vI 26,vI 27,vT 3,vB 10,vI 28,vI 29,vI 30,vI 31,vI 32,vT 4,vB 11,vI 33,vT 5,vI 34,vI 35,vI 36,vI 37,vB 12,vB 13,vI 38,vI 39,vI 40,vI 41,vB 14,vB 15,vI 42,.raw 1]
abbrev PP:List XV:=[vI 23,vI 24,vI 25,vI 26,vT 3,vB 9,vI 27,vI 28,vI 29,vI 30,vI 31,vT 4,vB 10,vI 32,vT 5,vI 33,vI 34,vI 35,vI 36,vB 11,vB 12,vI 37,vI 38,vI 39,vI 40,vB 13,vB 14,vI 41,.raw 1]
abbrev O1:List XV:=(nX 29 5 14 (.raw 2))
abbrev Rm:List XV:=(nX 16 3 9 (.raw 1))
abbrev NZ:List XV:=(nX 15 3 8 (.raw 1))
abbrev xO:List XV:=[vI 0,vI 1,vI 2,vI 3]
abbrev NO:List MI:=[.blk 0 [.map 3] 103,.asr 4,.asr 5]
theorem kI{P:Prop}(h:P:=by first|omega|(and_intros<;>intros<;>and_intros<;>first|omega|assumption|exact hx|(intro h;exact(hx h).2)|with_reducible rfl|(have hM:M=[]:=by assumption;rw[hM];done)|exact iD (.inl (by assumption)) hm|exact iD (.inr bj) hm|exact iD (.inr (by simp)) (by simp)|exact V1)):P:=h
theorem mZ{P:Prop}(h:P:=by first|omega|(and_intros<;>intros<;>and_intros<;>first|omega|assumption|with_reducible exact E8 (.inl (by assumption)) hm|with_reducible exact E8 (.inr bj) hm|with_reducible exact I3 (by assumption)|with_reducible exact MX bj hm|with_reducible exact EH bj (by assumption)|exact V1)):P:=h
theorem DW{P:Prop}(h:P:=by first|with_reducible exact Mr hm|with_reducible exact Jl (by assumption)|with_reducible exact GH (by first|exact absurd hr (by assumption)|exact Ef hc (by assumption)|omega|(simp_all;done))|omega|(and_intros<;>intros<;>and_intros<;>first|omega|assumption|exact hx|(intro h;exact(hx h).2)|with_reducible rfl|(have hM:M=[]:=by assumption;rw[hM];done)|exact iD (.inl (by assumption)) hm|exact iD (.inr bj) hm|exact iD (.inr (by simp)) (by simp)|exact V1)):P:=h
theorem H6{κ α:Type}[DecidableEq κ]{L:List (κ×α)}{k:κ}{x:α}:((mset L k x).length:Int)=(if iA L k=true then(L.length:Int)else(L.length:Int)+1):=by
 rw[lP]
 induction L with
 |nil=>rfl
 |cons a l ih=>
  obtain⟨a,y⟩:=a;rw[gb];unfold iA;rw[dZ];by_cases e:k=a
  .rw[bi e,bi e];simp
  .rw[bh e,bh e];rw[au,au];unfold iA at ih;by_cases h:(dZ l k).isSome=true
   .rw[bi h]at ih⊢;omega
   .rw[bh h]at ih⊢;omega
theorem iD{κ α:Type}[DecidableEq κ]{L:List (κ×α)}{k:κ}{x:α}{n:Int}(h:iA L k=true\/(L.length:Int)<n)(h2:(L.length:Int)<=n):((mset L k x).length:Int)<=n:=by
 rw[H6];split
 .exact h2
 .rename_i hh;have:=h.resolve_left hh;omega
theorem yn{x:ND}(h:dl x nd0 0 0=true):x=nd0:=by
 unfold dl at h;rw[a8,a8,a8,a8]at h;obtain⟨h1,h2,h3,h4,h5⟩:=h
 replace h1:=of_decide_eq_true h1
 replace h2:=of_decide_eq_true h2
 replace h3:=of_decide_eq_true h3
 replace h4:=of_decide_eq_true h4
 replace h5:=of_decide_eq_true ((a8 _ _).mp h5).1
 obtain⟨a1,a2,a3,a4,a5,a6⟩:=h2;obtain⟨b1,b2,b3,b4,b5,b6,b7,b8,b9,b10,b11,b12⟩:=h4;cases x;simp only at h1 h3 h5 a1 a2 a3 a4 a5 a6 b1 b2 b3 b4 b5 b6 b7 b8 b9 b10 b11 b12;subst h1 h3 h5 a1 a2 a3 a4 a5 a6 b1 b2 b3 b4 b5 b6 b7 b8 b9 b10 b11 b12;rfl
theorem Mr{M:List (CK×CT)}{a0 a1 a2 a3 k vk m e f:Int}{s:bn}{b0:Bool}{x:ND}{ks:List Tr}(hm:(M.length:Int)<=10000):((5:Int)=0\/(5:Int)=5)/\((5:Int)=0->M=mset M (a0,a1,a2,a3) (CT.mk k vk m e s b0 f x ks (.lit .nilIface)))/\((5:Int)≠0->M=M)/\(M.length:Int)<=10000:=⟨.inr rfl,λh=>absurd h (by decide),λ_=>rfl,hm⟩
theorem Jl{M:List (CK×CT)}{a:CK}{c:CT}(hM:M=[]):((0:Int)=0\/(0:Int)=5)/\((0:Int)=0->mset [] a c=mset M a c)/\((0:Int)≠0->mset [] a c=M)/\((mset [] a c).length:Int)<=10000:=⟨.inl rfl,λ_=>by rw[hM],λh=>absurd rfl h,iD (.inr (by simp)) (by simp)⟩
theorem GH{M:List (CK×CT)}{a0 a1 a2 a3 k vk m e f er:Int}{s:bn}{b0:Bool}{x:ND}{ks:List Tr}(h:False):(er=0\/er=5)/\(er=0->M=mset M (a0,a1,a2,a3) (CT.mk k vk m e s b0 f x ks (.lit .nilIface)))/\(er≠0->M=M)/\(M.length:Int)<=10000:=h.elim
theorem Ef{a0 a1 a2 a3:Int}(hc:¬(a0=0/\a1=0)/\¬(a2=0/\a3=0))(h:¬((!decide (a0=0/\a1=0)&& !decide (a2=0/\a3=0))=true)):False:=h (by rw[bc hc.1,bc hc.2];rfl)
theorem wT{k vk m e f:Int}{s:bn}{b0:Bool}{x:ND}{ks:List Tr}(h:dI k vk m e s b0 f x ks=true)(hk:k≠2):x=nd0:=by
 unfold dI at h;split at h
 .simp only[a8]at h;exact yn h.2.2
 .split at h
  .simp only[a8]at h;exact yn h.1
  .first
   |cases h
   |(simp_all;done)
abbrev Oy(Γ:Glob)(P:Nat)(a0 a1:Int)(a2 a3:Int)(k vk:Int)(m e:Int)(s:bn)(b0:Bool)(f:Int)(x:ND)(K:SV)(M:List (CK×CT))(ks:List Tr):TG:=λl Zq vq hq=>∃er:Int,∃M2:List (CK×CT),∃K2:SV,((er=0\/er=5)/\(er=0->M2=mset M (a0,a1,a2,a3) (CT.mk k vk m e s b0 f x ks K2))/\(er≠0->M2=M)/\(M2.length:Int)<=10000)/\vq=iV er/\St Zq (stA P Γ M2::br Γ (oneS K) ks::l) hq
theorem QN(P:Nat)(a0 a1:Int)(a2 a3:Int)(k vk:Int)(m e:Int)(s:bn)(b0:Bool)(f:Int)(x:ND)(K:SV)(M:List (CK×CT))(ks:List Tr)(hc:¬(a0=0/\a1=0)/\¬(a2=0/\a3=0))(hk:k≠0)(hr:dI k vk m e s b0 f x ks=true)(hx:k≠2->x=nd0/\ks=[])(hz:(sizeL ks:Int)<=5000)(hn:NilK K ks)(hm:(M.length:Int)<=10000)(hs:St Z0 (stA P Γ M::br Γ (oneS K) ks::l) h):RC Γ Z0 31 [.ptr P 0,.agg [iV a0,iV a1,iV a2,iV a3],.agg [iV k,iV vk,iV m,iV e,sV s,bV b0,iV f,iV x.k,iV x.v0,iV x.v1,iV x.v2,sV x.v3,bV x.v4,iV x.v5,sV x.name,iV x.a0,iV x.a1,iV x.a2,iV x.a3,bV x.a4,bV x.a5,iV x.b0,iV x.b1,iV x.b2,iV x.b3,bV x.b4,bV x.b5,iV x.rows,(oneS K)]] h (Oy Γ P a0 a1 a2 a3 k vk m e s b0 f x K M ks l):=by
 refine bL Tryz.f31 Tryz.func31 [.ptr 0 0,.agg xO,.agg T1] [.asr 0,.asr 1] ⟨23,3,6,1,1,2⟩ (va {i:=[a0,a1,a2,a3,k,vk,m,e,f,x.k,x.v0,x.v1,x.v2,x.v5,x.a0,x.a1,x.a2,x.a3,x.b0,x.b1,x.b2,x.b3,x.rows],t:=[s,x.v3,x.name],b:=[b0,x.v4,x.a4,x.a5,x.b4,x.b5],r:=[K],n:=[P],a:=[stA P Γ M,br Γ (oneS K) ks]}) (.new<|.new<|.call 65 [.agg xO] [] (vB 6) [] ⟨23,3,7,1,3,2⟩<|.fork (.bv 6) (.call 50 [.agg T1] [.asr 1] (vB 7) [.asr 2] ⟨23,3,8,1,3,3⟩<|.fork (.bv 7) (.fork (.eq (.v 4) (.z 0)) (.swap [.asr 0] [.asr 3] ⟨23,3,9,1,3,4⟩<|.fork (.bv 8) (.swap [.asr 3] NO ⟨23,3,9,1,4,6⟩<|.no)<|.swap [.asr 3] [.blk 0 [.lit (.map none)] 103] ⟨23,3,9,1,3,4⟩<|.no)<|.swap [.asr 0] [.asr 3] ⟨23,3,9,1,3,4⟩<|.fork (.bv 8) (.swap [.asr 3] NO ⟨23,3,9,1,4,6⟩<|.swap [] [] ⟨23,3,10,1,4,6⟩<|.fork (.bv 9) (.row (.look 101 (.map 3) (.agg xO) true) [.asr 4] (.tup [.agg [vI 23,vI 24,vI 25,vI 26,vT 3,vB 10,vI 27,vI 28,vI 29,vI 30,vI 31,vT 4,vB 11,vI 32,vT 5,vI 33,vI 34,vI 35,vI 36,vB 12,vB 13,vI 37,vI 38,vI 39,vI 40,vB 14,vB 15,vI 41,.raw 1],TB]) ⟨42,6,16,2,4,6⟩<|.newL [3] [.asr 4]<|.call 49 [.agg T1] [.asr 2] (.agg QO) [.asr 6,.asr 7] ⟨61,9,22,3,5,8⟩<|.eff (.upd 101 (.map 3) (.agg xO) (.agg QO)) [.asr 4] (.lit (.tuple #[])) [.asr 8] ⟨61,9,22,3,5,9⟩<|.swap [.asr 5,.asr 7] [.asr 9,.asr 10] ⟨61,9,22,3,5,11⟩<|.swap [.blk 0 [.map 3] 103,.asr 8,.asr 9] [.asr 11] ⟨61,9,22,3,5,12⟩<|.ret (Fd) [.asr 11,.asr 6])<|.row (.look 101 (.map 3) (.agg xO) true) [.asr 4] (.tup [.lit (.agg #[(.int .i64 0),(.int .i64 0),(.int .i64 0),(.int .i64 0),(.string ⟨⟨[]⟩⟩),(.bool false),(.int .i64 0),(.int .i64 0),(.int .i64 0),(.int .i64 0),(.int .i64 0),(.string ⟨⟨[]⟩⟩),(.bool false),(.int .i64 0),(.string ⟨⟨[]⟩⟩),(.int .i64 0),(.int .i64 0),(.int .i64 0),(.int .i64 0),(.bool false),(.bool false),(.int .i64 0),(.int .i64 0),(.int .i64 0),(.int .i64 0),(.bool false),(.bool false),(.int .i64 0),mt]),TA]) ⟨23,3,10,1,4,6⟩<|.newL [3] [.asr 4]<|.row (.len 101 (.map 3)) [.asr 4] (vI 23) ⟨24,3,10,1,5,6⟩<|.fork (.le (.z 10000) (.v 23)) (.swap NO [.asr 6] ⟨24,3,10,1,5,7⟩<|.ret (I (.z 5)) [.asr 6,.asr 2])<|.call 49 [.agg T1] [.asr 2] (.agg Ov) [.asr 6,.asr 7] ⟨43,6,16,2,5,8⟩<|.eff (.upd 101 (.map 3) (.agg xO) (.agg Ov)) [.asr 4] (.lit (.tuple #[])) [.asr 8] ⟨43,6,16,2,5,9⟩<|.swap [.asr 5,.asr 7] [.asr 9,.asr 10] ⟨43,6,16,2,5,11⟩<|.swap [.blk 0 [.map 3] 103,.asr 8,.asr 9] [.asr 11] ⟨43,6,16,2,5,12⟩<|.ret (Fd) [.asr 11,.asr 6])<|.swap [.asr 3] [.blk 0 [.lit (.map none)] 103] ⟨23,3,9,1,3,4⟩<|.row (.look 101 (.lit (.map none)) (.agg xO) true) [] (.tup [.lit (.agg #[(.int .i64 0),(.int .i64 0),(.int .i64 0),(.int .i64 0),(.string ⟨⟨[]⟩⟩),(.bool false),(.int .i64 0),(.int .i64 0),(.int .i64 0),(.int .i64 0),(.int .i64 0),(.string ⟨⟨[]⟩⟩),(.bool false),(.int .i64 0),(.string ⟨⟨[]⟩⟩),(.int .i64 0),(.int .i64 0),(.int .i64 0),(.int .i64 0),(.bool false),(.bool false),(.int .i64 0),(.int .i64 0),(.int .i64 0),(.int .i64 0),(.bool false),(.bool false),(.int .i64 0),mt]),TA]) ⟨23,3,9,1,3,4⟩<|.new<|.new<|.call 49 [.agg T1] [.asr 2] (.agg PP) [.asr 4,.asr 5] ⟨42,6,15,2,5,6⟩<|.swap [.obj 4 (.map [] 0)] [.asr 6] ⟨42,6,15,2,5,7⟩<|.eff (.upd 101 (.map 4) (.agg xO) (.agg PP)) [.asr 6] (.lit (.tuple #[])) [.asr 7] ⟨42,6,15,2,5,8⟩<|.swap [] [.asr 8] ⟨42,6,15,2,5,9⟩<|.swap [.asr 8,.asr 5] [.asr 9,.asr 10] ⟨42,6,15,2,5,11⟩<|.swap [.blk 0 [.map 4] 103,.asr 7,.asr 9] [.asr 11] ⟨42,6,15,2,5,12⟩<|.ret (Fd) [.asr 11,.asr 4])<|.ret (Tz) [.asr 0,.asr 2])<|.ret (I (.z 1)) [.asr 0,.asr 1]) hs ?_;refine bA λbk1=>?_;refine bA λbk2=>?_;refine dcU {b:=[(!decide (a0=0/\a1=0)&& !decide (a2=0/\a3=0))]} (λ_ _=>Q7 Γ a0 a1 a2 a3) λZ=>?_;refine bo ((!decide (a0=0/\a1=0)&& !decide (a2=0/\a3=0))=true) rfl (λcd1=>?_) λcd1=>?_
 .refine dcU {b:=[(dI k vk m e s b0 f x ks)],a:=[br Γ (oneS K) ks]} (λ_ _=>MS Γ k vk m e s b0 f x K ks kI kI) λZ=>?_;refine bo ((dI k vk m e s b0 f x ks)=true) rfl (λcd2=>?_) λcd2=>?_
  .refine bo (k=0) rfl (λcd3=>?_) λcd3=>?_
   .refine bQ (α:=Bool) (λ(q2:Bool)=>{b:=[q2],a:=[yA q2 (stM Γ P M) (stN P M)]}) (λ(_:Bool)=>True) (λl h hs=>pP (hs) (m:=l) (h:=h)) λq2 _=>?_;refine bo (q2=true) rfl (λcd4=>?_) λcd4=>?_
    .refine bQ (α:=Nat) (λ(MM2:Nat)=>{n:=[MM2],a:=[mpA clK ctE MM2 M,ctA Γ M]}) (λ(MM2:Nat)=>True) (λl h hs=>v7 cd4 (hs) (m:=l) (h:=h)) λMM2 qs3=>?_;exact JH kI
    .refine bQ (α:=Unit) (λ(_:Unit)=>{}) (λ(_:Unit)=>M=[]) (λl h hs=>⟨(),Cg cd4 (hs) (m:=l) (h:=h)⟩) λ_ qs4=>?_;exact JH kI
   .refine bQ (α:=Bool) (λ(q5:Bool)=>{b:=[q5],a:=[yA q5 (stM Γ P M) (stN P M)]}) (λ(_:Bool)=>True) (λl h hs=>pP (hs) (m:=l) (h:=h)) λq5 _=>?_;refine bo (q5=true) rfl (λcd4=>?_) λcd4=>?_
    .refine bQ (α:=Nat) (λ(MM5:Nat)=>{n:=[MM5],a:=[mpA clK ctE MM5 M,ctA Γ M]}) (λ(MM5:Nat)=>True) (λl h hs=>v7 cd4 (hs) (m:=l) (h:=h)) λMM5 qs6=>?_;refine bQ (α:=Unit) (λ(_:Unit)=>{b:=[(iA M (a0,a1,a2,a3))]}) (λ(_:Unit)=>True) (λl h hs=>⟨(),trivial,hs⟩) λ_ _=>?_;refine bo ((iA M (a0,a1,a2,a3))=true) rfl (λcd5=>?_) λcd5=>?_
     .refine drT {i:=[(((mget M (a0,a1,a2,a3))).k),(((mget M (a0,a1,a2,a3))).vk),(((mget M (a0,a1,a2,a3))).m),(((mget M (a0,a1,a2,a3))).e),(((mget M (a0,a1,a2,a3))).f),(((mget M (a0,a1,a2,a3))).x.k),(((mget M (a0,a1,a2,a3))).x.v0),(((mget M (a0,a1,a2,a3))).x.v1),(((mget M (a0,a1,a2,a3))).x.v2),(((mget M (a0,a1,a2,a3))).x.v5),(((mget M (a0,a1,a2,a3))).x.a0),(((mget M (a0,a1,a2,a3))).x.a1),(((mget M (a0,a1,a2,a3))).x.a2),(((mget M (a0,a1,a2,a3))).x.a3),(((mget M (a0,a1,a2,a3))).x.b0),(((mget M (a0,a1,a2,a3))).x.b1),(((mget M (a0,a1,a2,a3))).x.b2),(((mget M (a0,a1,a2,a3))).x.b3),(((mget M (a0,a1,a2,a3))).x.rows)],t:=[(((mget M (a0,a1,a2,a3))).t),(((mget M (a0,a1,a2,a3))).x.v3),(((mget M (a0,a1,a2,a3))).x.name)],b:=[(((mget M (a0,a1,a2,a3))).b),(((mget M (a0,a1,a2,a3))).x.v4),(((mget M (a0,a1,a2,a3))).x.a4),(((mget M (a0,a1,a2,a3))).x.a5),(((mget M (a0,a1,a2,a3))).x.b4),(((mget M (a0,a1,a2,a3))).x.b5)],r:=[(((mget M (a0,a1,a2,a3))).K)]} (λl h hs=>pM (m:=l) (h:=h) (kc:=clK) (ve:=ctE) (L:=M) (k:=(a0,a1,a2,a3)) rfl lU kI hs) ?_;refine AY (λl h hs n hn=>by obtain rfl:=List.mem_singleton.1 hn;exact Gb (m:=l) (h:=h) hs) λbk4=>?_;refine bS (λ(w7:SV)=>{i:=[k,vk,m,e,f,x.k,x.v0,x.v1,x.v2,x.v5,x.a0,x.a1,x.a2,x.a3,x.b0,x.b1,x.b2,x.b3,x.rows],t:=[s,x.v3,x.name],b:=[b0,x.v4,x.a4,x.a5,x.b4,x.b5],r:=[w7],a:=[br Γ (oneS K) ks,br Γ (oneS w7) ks]}) _ (λ_ _=>Bm Γ k vk m e s b0 f x K ks kI kI kI) λZ w7 qd7=>?_;refine dJ (λ(_:Unit)=>{a:=[mpA clK ctE MM5 (mset M (a0,a1,a2,a3) (CT.mk k vk m e s b0 f x ks w7))]}) (λ_=>True) (λl h hs=>ic (m:=l) (h:=h) (k:=(a0,a1,a2,a3)) (x:=(CT.mk k vk m e s b0 f x ks w7)) rfl lU hs rfl rfl) λ_ _=>?_;refine dsU {a:=[ctA Γ (mset M (a0,a1,a2,a3) (CT.mk k vk m e s b0 f x ks w7)),br Γ (oneS w7) ks]} (λl h hs=>Ag kI (hs) (m:=l) (h:=h)) ?_;refine dsU {a:=[stA P Γ (mset M (a0,a1,a2,a3) (CT.mk k vk m e s b0 f x ks w7))]} (λl h hs=>gI (hs) (m:=l) (h:=h)) ?_;exact an λh hs=>⟨0,(mset M (a0,a1,a2,a3) (CT.mk k vk m e s b0 f x ks w7)),_,DW,TT,hs⟩
     .refine drT {} (λl h hs=>Cf (m:=l) (h:=h) (kc:=clK) (ve:=ctE) (L:=M) (k:=(a0,a1,a2,a3)) rfl lU bm kI hs) ?_;refine AY (λl h hs n hn=>by obtain rfl:=List.mem_singleton.1 hn;exact Gb (m:=l) (h:=h) hs) λbk4=>?_;refine drT {i:=[(M.length:Int)]} (λl h hs=>Hc (m:=l) (h:=h) rfl hs) ?_;refine bo (10000<=(M.length:Int)) rfl (λcd6=>?_) λcd6=>?_
      .refine dsU {a:=[stA P Γ M]} (λl h hs=>gI (hs) (m:=l) (h:=h)) ?_;exact an λh hs=>⟨5,M,_,DW,TZ,hs⟩
      .refine bS (λ(w12:SV)=>{i:=[k,vk,m,e,f,x.k,x.v0,x.v1,x.v2,x.v5,x.a0,x.a1,x.a2,x.a3,x.b0,x.b1,x.b2,x.b3,x.rows],t:=[s,x.v3,x.name],b:=[b0,x.v4,x.a4,x.a5,x.b4,x.b5],r:=[w12],a:=[br Γ (oneS K) ks,br Γ (oneS w12) ks]}) _ (λ_ _=>Bm Γ k vk m e s b0 f x K ks kI kI kI) λZ w12 qd12=>?_;refine dJ (λ(_:Unit)=>{a:=[mpA clK ctE MM5 (mset M (a0,a1,a2,a3) (CT.mk k vk m e s b0 f x ks w12))]}) (λ_=>True) (λl h hs=>ic (m:=l) (h:=h) (k:=(a0,a1,a2,a3)) (x:=(CT.mk k vk m e s b0 f x ks w12)) rfl lU hs rfl rfl) λ_ _=>?_;refine dsU {a:=[ctA Γ (mset M (a0,a1,a2,a3) (CT.mk k vk m e s b0 f x ks w12)),br Γ (oneS w12) ks]} (λl h hs=>Ag kI (hs) (m:=l) (h:=h)) ?_;refine dsU {a:=[stA P Γ (mset M (a0,a1,a2,a3) (CT.mk k vk m e s b0 f x ks w12))]} (λl h hs=>gI (hs) (m:=l) (h:=h)) ?_;exact an λh hs=>⟨0,(mset M (a0,a1,a2,a3) (CT.mk k vk m e s b0 f x ks w12)),_,DW,TT,hs⟩
    .refine bQ (α:=Unit) (λ(_:Unit)=>{}) (λ(_:Unit)=>M=[]) (λl h hs=>⟨(),Cg cd4 (hs) (m:=l) (h:=h)⟩) λ_ qs16=>?_;refine iQ {} (λ_=>yY rfl rfl rfl bm) ?_;refine bA λbk3=>?_;refine bA λbk4=>?_;refine bS (λ(w17:SV)=>{i:=[k,vk,m,e,f,x.k,x.v0,x.v1,x.v2,x.v5,x.a0,x.a1,x.a2,x.a3,x.b0,x.b1,x.b2,x.b3,x.rows],t:=[s,x.v3,x.name],b:=[b0,x.v4,x.a4,x.a5,x.b4,x.b5],r:=[w17],a:=[br Γ (oneS K) ks,br Γ (oneS w17) ks]}) _ (λ_ _=>Bm Γ k vk m e s b0 f x K ks kI kI kI) λZ w17 qd17=>?_;refine dsU {a:=[mpA clK ctE bk4 []]} (λl h hs=>oa (hs) (m:=l) (h:=h)) ?_;refine dJ (λ(_:Unit)=>{a:=[mpA clK ctE bk4 (mset [] (a0,a1,a2,a3) (CT.mk k vk m e s b0 f x ks w17))]}) (λ_=>True) (λl h hs=>ic (m:=l) (h:=h) (k:=(a0,a1,a2,a3)) (x:=(CT.mk k vk m e s b0 f x ks w17)) rfl lU hs rfl rfl) λ_ _=>?_;refine dsU {a:=[ctA Γ []]} (λl h hs=>LL (hs) (m:=l) (h:=h)) ?_;refine dsU {a:=[ctA Γ (mset [] (a0,a1,a2,a3) (CT.mk k vk m e s b0 f x ks w17)),br Γ (oneS w17) ks]} (λl h hs=>Ag kI (hs) (m:=l) (h:=h)) ?_;refine dsU {a:=[stA P Γ (mset [] (a0,a1,a2,a3) (CT.mk k vk m e s b0 f x ks w17))]} (λl h hs=>gI (hs) (m:=l) (h:=h)) ?_;exact an λh hs=>⟨0,(mset [] (a0,a1,a2,a3) (CT.mk k vk m e s b0 f x ks w17)),_,DW,TT,hs⟩
  .exact an λh hs=>⟨6,M,_,DW,rfl,hs⟩
 .exact an λh hs=>⟨1,M,_,DW,rfl,hs⟩
structure SetQ(er:Int)(N N2:List (bn×NT))(nm:bn)(x:ND)(ks:List Tr):Prop where
 a:er=0->∃K,N2=mset N nm (NT.mk x ks K)
 b:er≠0->N2=N
 l:(N2.length:Int)<=100
section
variable {er:Int}{N:List (bn×NT)}{nm:bn}{x:ND}{ks:List Tr}{K:SV}
theorem E8(h:iA N nm=true\/(N.length:Int)<100)(hm:(N.length:Int)<=100):SetQ 0 N (mset N nm (NT.mk x ks K)) nm x ks:=⟨λ_=>⟨K,rfl⟩,λh=>absurd rfl h,iD h hm⟩
theorem I3(hN:N=[]):SetQ 0 N (mset [] nm (NT.mk x ks K)) nm x ks:=⟨λ_=>⟨K,by rw[hN]⟩,λh=>absurd rfl h,iD (.inr (by simp)) (by simp)⟩
theorem MX(h:¬er=0)(hm:(N.length:Int)<=100):SetQ er N N nm x ks:=⟨λh'=>absurd h' h,λ_=>rfl,hm⟩
theorem EH(h:¬er=0)(hN:N=[]):SetQ er N [] nm x ks:=⟨λh'=>absurd h' h,λ_=>hN.symm,by simp⟩
end
abbrev PH(Γ:Glob)(P:Nat)(nm:bn)(x:ND)(K:SV)(N:List (bn×NT))(ks:List Tr):TG:=λl Zq vq hq=>∃er:Int,∃N2:List (bn×NT),(SetQ er N N2 nm x ks)/\vq=iV er/\St Zq (tbA P Γ N2::br Γ (oneS K) ks::l) hq
theorem Q8(P:Nat)(nm:bn)(x:ND)(K:SV)(N:List (bn×NT))(ks:List Tr)(hz:(sizeL ks:Int)<=5000)(hm:(N.length:Int)<=100)(hs:St Z0 (tbA P Γ N::br Γ (oneS K) ks::l) h):RC Γ Z0 74 [.ptr P 0,sV nm,.agg (ndL x (oneS K))] h (PH Γ P nm x K N ks l):=by
 refine bL Tryz.f74 Tryz.func74 [.ptr 0 0,vT 0,.agg TV] [.asr 0,.asr 1] ⟨14,3,5,1,1,2⟩ (va {i:=[x.k,x.v0,x.v1,x.v2,x.v5,x.a0,x.a1,x.a2,x.a3,x.b0,x.b1,x.b2,x.b3,x.rows],t:=[nm,x.v3,x.name],b:=[x.v4,x.a4,x.a5,x.b4,x.b5],r:=[K],n:=[P],a:=[tbA P Γ N,br Γ (oneS K) ks]}) (.new<|.call 121 [vT 0] [] (vB 5) [] ⟨14,3,6,1,2,2⟩<|.fork (.bv 5) (.call 57 [.agg TV] [.asr 1] (vI 14) [.asr 2] ⟨15,3,6,1,2,3⟩<|.fork (.eq (.v 14) (.z 0)) (.call 122 [.agg TV] [.asr 2] (vB 6) [.asr 3] ⟨15,3,7,1,2,4⟩<|.fork (.bv 6) (.ret (I (.z 17)) [.asr 0,.asr 3])<|.swap [.asr 0] [.asr 4] ⟨15,3,8,1,2,5⟩<|.fork (.bv 7) (.swap [.asr 4] [.blk 0 [.map 2] 106,.asr 5,.asr 6] ⟨15,3,8,1,3,7⟩<|.swap [] [] ⟨15,3,9,1,3,7⟩<|.fork (.bv 8) (.row (.look 104 (.map 2) (vT 0) true) [.asr 5] (.tup [.agg (nX 15 3 9 (.raw 1)),TB]) ⟨29,5,14,2,3,7⟩<|.new<|.call 56 [.agg TV] [.asr 3] (.agg O1) [.asr 7,.asr 8] ⟨43,7,19,3,4,9⟩<|.eff (.upd 104 (.map 2) (vT 0) (.agg O1)) [.asr 5] (.lit (.tuple #[])) [.asr 9] ⟨43,7,19,3,4,10⟩<|.swap [.asr 6,.asr 8] [.asr 10,.asr 11] ⟨43,7,19,3,4,12⟩<|.swap [.blk 0 [.map 2] 106,.asr 9,.asr 10] [.asr 12] ⟨43,7,19,3,4,13⟩<|.ret (Fd) [.asr 12,.asr 7])<|.row (.look 104 (.map 2) (vT 0) true) [.asr 5] (.tup [.lit (.agg #[(.int .i64 0),(.int .i64 0),(.int .i64 0),(.int .i64 0),(.string ⟨⟨[]⟩⟩),(.bool false),(.int .i64 0),(.string ⟨⟨[]⟩⟩),(.int .i64 0),(.int .i64 0),(.int .i64 0),(.int .i64 0),(.bool false),(.bool false),(.int .i64 0),(.int .i64 0),(.int .i64 0),(.int .i64 0),(.bool false),(.bool false),(.int .i64 0),mt]),TA]) ⟨15,3,9,1,3,7⟩<|.new<|.row (.len 104 (.map 2)) [.asr 5] (vI 15) ⟨16,3,9,1,4,7⟩<|.fork (.le (.z 100) (.v 15)) (.swap [.blk 0 [.map 2] 106,.asr 5,.asr 6] [.asr 7] ⟨16,3,9,1,4,8⟩<|.ret (I (.z 5)) [.asr 7,.asr 3])<|.call 56 [.agg TV] [.asr 3] (.agg Rm) [.asr 7,.asr 8] ⟨30,5,14,2,4,9⟩<|.eff (.upd 104 (.map 2) (vT 0) (.agg Rm)) [.asr 5] (.lit (.tuple #[])) [.asr 9] ⟨30,5,14,2,4,10⟩<|.swap [.asr 6,.asr 8] [.asr 10,.asr 11] ⟨30,5,14,2,4,12⟩<|.swap [.blk 0 [.map 2] 106,.asr 9,.asr 10] [.asr 12] ⟨30,5,14,2,4,13⟩<|.ret (Fd) [.asr 12,.asr 7])<|.swap [.asr 4] [.blk 0 [.lit (.map none)] 106] ⟨15,3,8,1,2,5⟩<|.row (.look 104 (.lit (.map none)) (vT 0) true) [] (.tup [.lit (.agg #[(.int .i64 0),(.int .i64 0),(.int .i64 0),(.int .i64 0),(.string ⟨⟨[]⟩⟩),(.bool false),(.int .i64 0),(.string ⟨⟨[]⟩⟩),(.int .i64 0),(.int .i64 0),(.int .i64 0),(.int .i64 0),(.bool false),(.bool false),(.int .i64 0),(.int .i64 0),(.int .i64 0),(.int .i64 0),(.bool false),(.bool false),(.int .i64 0),mt]),TA]) ⟨15,3,8,1,2,5⟩<|.new<|.new<|.call 56 [.agg TV] [.asr 3] (.agg NZ) [.asr 5,.asr 6] ⟨29,5,13,2,4,7⟩<|.swap [.obj 3 (.map [] 0)] [.asr 7] ⟨29,5,13,2,4,8⟩<|.eff (.upd 104 (.map 3) (vT 0) (.agg NZ)) [.asr 7] (.lit (.tuple #[])) [.asr 8] ⟨29,5,13,2,4,9⟩<|.swap [] [.asr 9] ⟨29,5,13,2,4,10⟩<|.swap [.asr 9,.asr 6] [.asr 10,.asr 11] ⟨29,5,13,2,4,12⟩<|.swap [.blk 0 [.map 3] 106,.asr 8,.asr 10] [.asr 12] ⟨29,5,13,2,4,13⟩<|.ret (Fd) [.asr 12,.asr 5])<|.ret (vI 14) [.asr 0,.asr 2])<|.ret (I (.z 9)) [.asr 0,.asr 1]) hs ?_;refine bA λbk1=>?_;refine bS (λ(v0:Bool)=>{b:=[v0]}) _ (λ_ _=>OW Γ nm) λZ v0 qd0=>?_;refine bo (v0=true) rfl (λcd1=>?_) λcd1=>?_
 .refine bS (λ(e1:Int)=>{i:=[e1],a:=[br Γ (oneS K) ks]}) _ (λ_ _=>Ij Γ x K ks mZ) λZ e1 qd1=>?_;refine bo (e1=0) rfl (λcd2=>?_) λcd2=>?_
  .refine bS (λ(sm2:Bool)=>{b:=[sm2],a:=[br Γ (oneS K) ks]}) _ (λ_ _=>Qx Γ x K ks mZ) λZ sm2 qd2=>?_;refine bo (sm2=true) rfl (λcd3=>?_) λcd3=>?_
   .exact an λh hs=>⟨17,N,mZ,rfl,hs⟩
   .refine bQ (α:=Bool) (λ(q3:Bool)=>{b:=[q3],a:=[yA q3 (tbM Γ P N) (tbN P N)]}) (λ(_:Bool)=>True) (λl h hs=>wh (hs) (m:=l) (h:=h)) λq3 _=>?_;refine bo (q3=true) rfl (λcd4=>?_) λcd4=>?_
    .refine bQ (α:=Nat) (λ(MM3:Nat)=>{n:=[MM3],a:=[mpA tK ntE MM3 N,ntA Γ N]}) (λ(MM3:Nat)=>True) (λl h hs=>AG cd4 (hs) (m:=l) (h:=h)) λMM3 qs4=>?_;refine bQ (α:=Unit) (λ(_:Unit)=>{b:=[(iA N nm)]}) (λ(_:Unit)=>True) (λl h hs=>⟨(),trivial,hs⟩) λ_ _=>?_;refine bo ((iA N nm)=true) rfl (λcd5=>?_) λcd5=>?_
     .refine drT (TD (((mget N nm)).x) (((mget N nm)).K)) (λl h hs=>pM (m:=l) (h:=h) (kc:=tK) (ve:=ntE) (L:=N) (k:=nm) rfl gO mZ hs) ?_;refine bA λbk3=>?_;refine bS (λ(w5:SV)=>{TD x w5 with a:=[br Γ (oneS K) ks,br Γ (oneS w5) ks]}) _ (λ_ _=>CD Γ x K ks mZ) λZ w5 qd5=>?_;refine dJ (λ(_:Unit)=>{a:=[mpA tK ntE MM3 (mset N nm (NT.mk x ks w5))]}) (λ_=>True) (λl h hs=>ic (m:=l) (h:=h) (k:=nm) (x:=(NT.mk x ks w5)) rfl gO hs rfl rfl) λ_ _=>?_;refine dsU {a:=[ntA Γ (mset N nm (NT.mk x ks w5)),br Γ (oneS w5) ks]} (λl h hs=>AM (hs) (m:=l) (h:=h)) ?_;refine dsU {a:=[tbA P Γ (mset N nm (NT.mk x ks w5))]} (λl h hs=>gF (hs) (m:=l) (h:=h)) ?_;exact an λh hs=>⟨0,(mset N nm (NT.mk x ks w5)),mZ,TT,hs⟩
     .refine drT {} (λl h hs=>Cf (m:=l) (h:=h) (kc:=tK) (ve:=ntE) (L:=N) (k:=nm) rfl gO bm mZ hs) ?_;refine bA λbk3=>?_;refine drT {i:=[(N.length:Int)]} (λl h hs=>Hc (m:=l) (h:=h) rfl hs) ?_;refine bo (100<=(N.length:Int)) rfl (λcd6=>?_) λcd6=>?_
      .refine dsU {a:=[tbA P Γ N]} (λl h hs=>gF (hs) (m:=l) (h:=h)) ?_;exact an λh hs=>⟨5,N,mZ,TZ,hs⟩
      .refine bS (λ(w10:SV)=>{TD x w10 with a:=[br Γ (oneS K) ks,br Γ (oneS w10) ks]}) _ (λ_ _=>CD Γ x K ks mZ) λZ w10 qd10=>?_;refine dJ (λ(_:Unit)=>{a:=[mpA tK ntE MM3 (mset N nm (NT.mk x ks w10))]}) (λ_=>True) (λl h hs=>ic (m:=l) (h:=h) (k:=nm) (x:=(NT.mk x ks w10)) rfl gO hs rfl rfl) λ_ _=>?_;refine dsU {a:=[ntA Γ (mset N nm (NT.mk x ks w10)),br Γ (oneS w10) ks]} (λl h hs=>AM (hs) (m:=l) (h:=h)) ?_;refine dsU {a:=[tbA P Γ (mset N nm (NT.mk x ks w10))]} (λl h hs=>gF (hs) (m:=l) (h:=h)) ?_;exact an λh hs=>⟨0,(mset N nm (NT.mk x ks w10)),mZ,TT,hs⟩
    .refine bQ (α:=Unit) (λ(_:Unit)=>{}) (λ(_:Unit)=>N=[]) (λl h hs=>⟨(),GS cd4 (hs) (m:=l) (h:=h)⟩) λ_ qs14=>?_;refine iQ {} (λ_=>yY rfl rfl rfl bm) ?_;refine bA λbk2=>?_;refine bA λbk3=>?_;refine bS (λ(w15:SV)=>{TD x w15 with a:=[br Γ (oneS K) ks,br Γ (oneS w15) ks]}) _ (λ_ _=>CD Γ x K ks mZ) λZ w15 qd15=>?_;refine dsU {a:=[mpA tK ntE bk3 []]} (λl h hs=>oa (hs) (m:=l) (h:=h)) ?_;refine dJ (λ(_:Unit)=>{a:=[mpA tK ntE bk3 (mset [] nm (NT.mk x ks w15))]}) (λ_=>True) (λl h hs=>ic (m:=l) (h:=h) (k:=nm) (x:=(NT.mk x ks w15)) rfl gO hs rfl rfl) λ_ _=>?_;refine dsU {a:=[ntA Γ []]} (λl h hs=>NP (hs) (m:=l) (h:=h)) ?_;refine dsU {a:=[ntA Γ (mset [] nm (NT.mk x ks w15)),br Γ (oneS w15) ks]} (λl h hs=>AM (hs) (m:=l) (h:=h)) ?_;refine dsU {a:=[tbA P Γ (mset [] nm (NT.mk x ks w15))]} (λl h hs=>gF (hs) (m:=l) (h:=h)) ?_;exact an λh hs=>⟨0,(mset [] nm (NT.mk x ks w15)),mZ,TT,hs⟩
  .exact an λh hs=>⟨e1,N,mZ,rfl,hs⟩
 .exact an λh hs=>⟨9,N,mZ,rfl,hs⟩
open Go Go.Proofs.YtbhokokpplmigaaGreatDoor.Ev Go.Proofs.YtbhokokpplmigaaGreatDoor.fr
theorem St.row{Z h H:Hp}{m:List Asrt}{b:Nat}{o:AObj}(s:St Z m h)(k:Kept h.next h H)(hb:h.next<=b)(hb2:b<H.next)(hg:H.objs.get b=some o):St Z (own b o::m) H:=by
 have s':=s.kept k;refine⟨s'.frz,s'.zlt,λx=>x=b,λx hx=>?_,⟨λ_=>Iff.rfl,hg⟩,mO k.next (λx hx _=>k.old x hx) (λx hx hl=>hx.elim id λe=>?_) s.sep⟩
 .have hx:x=b:=hx;subst hx;refine⟨λhz=>?_,hb2⟩;cases e:Z.objs.get x with
  |none=>exact hz e
  |some p=>have:=s.zlt x p e;omega
 .have e:x=b:=e;omega
theorem mX{Z h H:Hp}{m:List Asrt}{bl size:Nat}{e:TypeId}{v:SV}{l:List (List SV)}(s:St Z m h)(k:Kept h.next h H)(hr:RowIs H h.next bl e size v l)(hl:∀x∈l,x.length=size/\x.all SV.one=true):oneS v=v/\St Z (dL e size (oneS v) l::m) H:=by
 have hv:oneS v=v:=cm hr.same.1 (by
  rcases hr with⟨rfl,_⟩|⟨rfl,_⟩
  .simp[SV.same,dr]
  .simp only[SV.same,bb,aF])
 refine⟨hv,?_⟩;rw[hv];rcases hr with⟨rfl,rfl⟩|⟨h1,h2,h3,h4⟩
 .have s':=s.kept k;exact⟨s'.frz,s'.zlt,λ_=>False,λ_ h=>h.elim,⟨hl,.inl ⟨rfl,rfl,λ_ h=>h⟩⟩,db (λx hx=>hx.elim id False.elim) s'.sep⟩
 .have hlen:=el λx hx=>(hl x hx).1;refine ee hl (s.row k h2 h3 h4) ⟨_,.inr ⟨_,h1,av _,rfl,by rw[hlen];exact av _⟩,?_⟩;rw[<-hlen];exact List.take_length
section
variable {α:Type}{ve:α->SV}{Γ:Glob}[Mute Γ]{Z0 h:Hp}{l:List Asrt}{C MM:Nat}
theorem yg{κ:Type}{kv:κ->SV}{es:List (SV×SV×Nat)}{L:List (κ×α)}(h:es.map (λe=>(e.1,e.2.1))=L.map (λx=>(kv x.1,ve x.2))):es.map (·.1)=(L.map (·.1)).map kv:=by
 have:=congrArg (List.map Prod.fst) h;rw[List.map_map,List.map_map]at this;rw[List.map_map];exact this
theorem vh{L:List (C4×α)}(hl:L.length<=1000000)(ha:(L.map (·.1)).Pairwise lt4)(hs:St Z0 (own C (.cells [.map MM] 101)::mpA kcV ve MM L::l) h):
 Runs Tryz.prog Γ (.call 46 [.func (.func 81) [] [.ptr C 0],.lit (.func (.func 48) #[] #[])] h) λoq=>∃Z',Sub Z0 Z'/\∃v:SV,(True)/\oq.v=oneS v/\St Z' (mpA kcV ve MM L::lsA 45 4 kcE (oneS v) (L.map (·.1))::l) oq.hp:=by
 have hC:=St.get (l:=[]) hs;have hs1:=hs.drop (l:=[_]);obtain⟨es,c,g1,g2,g3,g4,g5,hs2⟩:=rP hs1;have hM:=St.get (l:=[]) hs2;refine(tc Γ C (L.map (·.1)) h (LA Γ MM C c es _ g3 g4 (yg g2) (by rw[ao];exact hl) h ⟨hC.2,hC.1⟩ ⟨hM.2,hM.1⟩) (by rw[ao];exact hl) λzs hz=>nc CW Ah yJ hz.symm (ha.imp λh=>gP.2 λh2=>np _ (rK h h2))).mono ?_;rintro o ⟨bl,hrow,k⟩;have s:=mX hs1 k hrow λx hx=>by
  obtain⟨z,_,rfl⟩:=List.mem_map.1 hx;exact⟨rfl,rfl⟩
 exact⟨Z0,Sub.refl _,o.v,trivial,s.1.symm,s.2.rot1⟩
theorem so(hs:St Z0 (own C (.cells [.lit (.map none)] 101)::l) h):
 Runs Tryz.prog Γ (.call 46 [.func (.func 81) [] [.ptr C 0],.lit (.func (.func 48) #[] #[])] h) λoq=>∃Z',Sub Z0 Z'/\∃v:SV,(True)/\oq.v=oneS v/\St Z' (lsA 45 4 kcE (oneS v) ([]:List (C4))::l) oq.hp:=by
 have hC:=St.get (l:=[]) hs;refine(tc Γ C [] h (MJ Γ C h ⟨hC.2,hC.1⟩) (Nat.zero_le _) λzs hz=>by rw[hz.eq_nil];rfl).mono ?_;rintro o ⟨bl,hrow,k⟩;have s:=mX (hs.drop (l:=[_])) k hrow λx hx=>by cases hx
 exact⟨Z0,Sub.refl _,o.v,trivial,s.1.symm,s.2⟩
theorem wo{L:List (bn×α)}(hl:L.length<=1000000)(ha:(L.map (·.1)).Pairwise (λa b:bn=>a<b))(hs:St Z0 (own C (.cells [.map MM] 104)::mpA ktV ve MM L::l) h):
 Runs Tryz.prog Γ (.call 54 [.func (.func 92) [] [.ptr C 0]] h) λoq=>∃Z',Sub Z0 Z'/\∃v:SV,(True)/\oq.v=oneS v/\St Z' (mpA ktV ve MM L::lsA 9 1 ktE (oneS v) (L.map (·.1))::l) oq.hp:=by
 have hC:=St.get (l:=[]) hs;have hs1:=hs.drop (l:=[_]);obtain⟨es,c,g1,g2,g3,g4,g5,hs2⟩:=rP hs1;have hM:=St.get (l:=[]) hs2;refine(uh Γ C (L.map (·.1)) h (Lj Γ MM C c es _ g3 g4 (yg g2) (by rw[ao];exact hl) h ⟨hC.2,hC.1⟩ ⟨hM.2,hM.1⟩) (by rw[ao];exact hl) λzs hz=>nc Bx F2 zk hz.symm (ha.imp λh=>iE.2 (List.le_of_lt h))).mono ?_;rintro o ⟨bl,hrow,k⟩;have s:=mX hs1 k hrow λx hx=>by
  obtain⟨z,_,rfl⟩:=List.mem_map.1 hx;exact⟨rfl,rfl⟩
 exact⟨Z0,Sub.refl _,o.v,trivial,s.1.symm,s.2.rot1⟩
theorem sb(hs:St Z0 (own C (.cells [.lit (.map none)] 104)::l) h):
 Runs Tryz.prog Γ (.call 54 [.func (.func 92) [] [.ptr C 0]] h) λoq=>∃Z',Sub Z0 Z'/\∃v:SV,(True)/\oq.v=oneS v/\St Z' (lsA 9 1 ktE (oneS v) ([]:List bn)::l) oq.hp:=by
 have hC:=St.get (l:=[]) hs;refine(uh Γ C [] h (MA Γ C h ⟨hC.2,hC.1⟩) (Nat.zero_le _) λzs hz=>by rw[hz.eq_nil];rfl).mono ?_;rintro o ⟨bl,hrow,k⟩;have s:=mX (hs.drop (l:=[_])) k hrow λx hx=>by cases hx
 exact⟨Z0,Sub.refl _,o.v,trivial,s.1.symm,s.2⟩
end
abbrev Qo:List XV:=[vI 26,vI 27,vI 28,vI 29,vT 3,vB 8,vI 30,vI 31,vI 32,vI 33,vI 34,vT 4,vB 9,vI 35,vT 5,vI 36,vI 37,vI 38,vI 39,vB 10,vB 11,vI 40,vI 41,vI 42,vI 43,vB 12,vB 13,vI 44,.raw 4]
abbrev NW:List XV:=[vI 7,vI 8,vI 9,vI 10,vT 0,vB 2,vI 11,vI 12,vI 13,vI 14,vI 15,vT 1,vB 3,vI 16,vT 2,vI 17,vI 18,vI 19,vI 20,vB 4,vB 5,vI 21,vI 22,vI 23,vI 24,vB 6,vB 7,vI 25,.raw 3]
abbrev Lr:List XV:=[vI 3,vI 4,vI 5,vI 6]
abbrev Md:List MI:=[.blk 2 [.lit (.map none)] 103]
theorem jc{P:Prop}(h:P:=by first|with_reducible exact(hk.get (cM bj bj)).x|first|omega|(and_intros<;>intros<;>and_intros<;>first|omega|assumption|(have w9:M=[]:=by assumption;rw[w9]at*;simp only[eu,aY,aw]at*;omega)|exact cM bj bj|exact(hk.get (cM bj bj)).x|exact(hk.get (cM bj bj)).n|(rw[(by assumption:M=[])];simp;done)|(have w1:=hk.l;simp only[eu,ao]at*;omega)|exact V1)):P:=h
def clE(a:CK):List SV:=[iV a.1,iV a.2.1,iV a.2.2.1,iV a.2.2.2]
def zG(a b c d:Int):Prop:=b<d\/(b=d/\a<c)
def ltC(x y:CK):Prop:=zG x.1 x.2.1 y.1 y.2.1\/(x.1=y.1/\x.2.1=y.2.1/\zG x.2.2.1 x.2.2.2 y.2.2.1 y.2.2.2)
structure CtOk(c:CT):Prop where
 x:c.k≠2->c.x=nd0/\c.ks=[]
 n:(sizeL c.ks:Int)<=5000
 o:OkT (Tr.mk c.x c.ks)
 v: TF c.m (TF c.e (TF c.f ((c.t.length:Int)<=3100)))
 e:∃t,codeC c.k c.vk c.m c.e c.t c.b c.f c.x c.ks=(t,0)/\(t.length:Int)<=3000
structure I64C(a:CK):Prop where
 h: TF a.1 (TF a.2.1 (TF a.2.2.1 (TE a.2.2.2)))
structure StOk(M:List (CK×CT)):Prop where
 s:List.Pairwise ltC (M.map Prod.fst)
 c:∀y∈M,CtOk y.2
 l:(M.length:Int)<=10000
 i:∀y∈M,I64C y.1
instance:Inhabited CK:=⟨(0,0,0,0)⟩
abbrev eu(M:List (CK×CT)):List CK:=M.map Prod.fst
abbrev kC(M:List (CK×CT))(i:Int):CK:=lget (eu M) i
abbrev eC(a:CK):CK:=(a.1,a.2.1,a.2.2.1,a.2.2.2)
theorem r6{κ α:Type}[DecidableEq κ]{k:κ}:∀{L:List (κ×α)},k∈L.map Prod.fst->iA L k=true
 |[],h=>by cases h
 |(a,x)::l,h=>by
  unfold iA;rw[dZ];by_cases e:k=a
  .rw[bi e];rfl
  .rw[bh e];rcases aD.1 h with h|h
   .exact absurd h e
   .exact r6 h
theorem Gr{M:List (CK×CT)}{i:Int}(h0:0<=i)(h1:i<((eu M).length:Int)):iA M (lget (eu M) i)=true:=r6 (fz h0 h1)
theorem cM{M:List (CK×CT)}{i:Int}(h0:0<=i)(h1:i<((eu M).length:Int)):iA M ((lget (eu M) i).1,(lget (eu M) i).2.1,(lget (eu M) i).2.2.1,(lget (eu M) i).2.2.2)=true:=Gr h0 h1
theorem StOk.get{M:List (CK×CT)}{k:CK}(w:StOk M)(h:iA M k=true):CtOk (mget M k):=w.c _ (ny h)
abbrev Pg(Γ:Glob)(MM:Nat):TG:=λl Zq vq hq=>∃C:Nat,(True)/\vq=.func (.func 81) [] [.ptr C 0]/\St Zq (own C (.cells [.map MM] 101)::l) hq
theorem Qq(MM:Nat)(hs:St Z0 (l) h):RC Γ Z0 47 [.map MM] h (Pg Γ MM l):=by
 refine bL Tryz.f47 Tryz.func47 [.map 0] [] ⟨0,0,0,0,1,0⟩ (va {n:=[MM]}) (.new<|.ret (.fn 81 [] [.ptr 1 0]) [.blk 1 [.map 0] 101]) hs ?_;refine bA λbk1=>?_;exact an λh hs=>⟨bk1,TH,rfl,hs⟩
abbrev Qn(Γ:Glob):TG:=λl Zq vq hq=>∃C:Nat,(True)/\vq=.func (.func 81) [] [.ptr C 0]/\St Zq (own C (.cells [.lit (.map none)] 101)::l) hq
theorem Qj(hs:St Z0 (l) h):RC Γ Z0 47 [.lit (.map none)] h (Qn Γ l):=by
 refine bL Tryz.f47 Tryz.func47 [.lit (.map none)] [] {} (va {}) (.new<|.ret (.fn 81 [] [.ptr 0 0]) [.blk 0 [.lit (.map none)] 101]) hs ?_;refine bA λbk0=>?_;exact an λh hs=>⟨bk0,TH,rfl,hs⟩
theorem PL(C MM:Nat)(M:List (CK×CT))(hs0:StOk M)(hs:St Z0 (own C (.cells [.map MM] 101)::mpA clK ctE MM M::l) h):RC Γ Z0 46 [.func (.func 81) [] [.ptr C 0],.lit (.func (.func 48) #[] #[])] h λZq vq hq=>∃v:SV,(True)/\vq=(oneS v)/\St Zq (mpA clK ctE MM M::lsA 45 4 clE (oneS v) (eu M)::l) hq:=by
 exact vh (by have w1:=hs0.l;omega) hs0.s hs
theorem Ow(C:Nat)(hs:St Z0 (own C (.cells [.lit (.map none)] 101)::l) h):RC Γ Z0 46 [.func (.func 81) [] [.ptr C 0],.lit (.func (.func 48) #[] #[])] h λZq vq hq=>∃v:SV,(True)/\vq=(oneS v)/\St Zq (lsA 45 4 clE (oneS v) ([]:List CK)::l) hq:=by
 exact so hs
abbrev OS(Γ:Glob)(P:Nat):TG:=λl Zq vq hq=>∃C:Nat,(True)/\vq=.func (.func 45) [] [.ptr C 0]/\St Zq (own C (.cells [.ptr P 0] 34)::l) hq
theorem OD(P:Nat)(hs:St Z0 (l) h):RC Γ Z0 21 [.ptr P 0] h (OS Γ P l):=by
 refine bL Tryz.f21 Tryz.func21 [.ptr 0 0] [] ⟨0,0,0,0,1,0⟩ (va {n:=[P]}) (.new<|.ret (.fn 45 [] [.ptr 1 0]) [.blk 1 [.ptr 0 0] 34]) hs ?_;refine bA λbk1=>?_;exact an λh hs=>⟨bk1,TH,rfl,hs⟩
theorem B5(C P:Nat)(M:List (CK×CT))(hk:StOk M){Z0:Hp}{B:Nat}{J0:Asrt}{J:Nat->Asrt}{Q:Asrt}(h0:∀Z l h,St Z ([]++J0::l) h->St Z (J 0::l) h)(hr:my Tryz.prog Γ B (M.length) (λ(k:Nat) (rv:SV)=>[.agg [iV (kC M k).1,iV (kC M k).2.1,iV (kC M k).2.2.1,iV (kC M k).2.2.2],.agg [iV ((mget M (eC (kC M k))).k),iV ((mget M (eC (kC M k))).vk),iV ((mget M (eC (kC M k))).m),iV ((mget M (eC (kC M k))).e),sV ((mget M (eC (kC M k))).t),bV ((mget M (eC (kC M k))).b),iV ((mget M (eC (kC M k))).f),iV ((mget M (eC (kC M k))).x.k),iV ((mget M (eC (kC M k))).x.v0),iV ((mget M (eC (kC M k))).x.v1),iV ((mget M (eC (kC M k))).x.v2),sV ((mget M (eC (kC M k))).x.v3),bV ((mget M (eC (kC M k))).x.v4),iV ((mget M (eC (kC M k))).x.v5),sV ((mget M (eC (kC M k))).x.name),iV ((mget M (eC (kC M k))).x.a0),iV ((mget M (eC (kC M k))).x.a1),iV ((mget M (eC (kC M k))).x.a2),iV ((mget M (eC (kC M k))).x.a3),bV ((mget M (eC (kC M k))).x.a4),bV ((mget M (eC (kC M k))).x.a5),iV ((mget M (eC (kC M k))).x.b0),iV ((mget M (eC (kC M k))).x.b1),iV ((mget M (eC (kC M k))).x.b2),iV ((mget M (eC (kC M k))).x.b3),bV ((mget M (eC (kC M k))).x.b4),bV ((mget M (eC (kC M k))).x.b5),iV ((mget M (eC (kC M k))).x.rows),(oneS rv)]]) (λ(k:Nat) (rv:SV)=>[br Γ (oneS rv) (mget M (eC (kC M k))).ks]) J Q)(q0:Bool)(MM0 C2:Nat)(v3:SV){l:List Asrt}:∀(m:Nat) (Z:Hp) (vv:SV) (ln ix:Int) (hi:0<=ix/\ix<=(M.length:Int)/\ln=((eu M).length:Int)) (hm:((M.length:Int)-ix).toNat<m),den (fnC Tryz.prog Γ Tryz.f45 2 [] (d4 Z0::l) (dz Z0 (λZ _ h=>St Z ([own C (.cells [.ptr P 0] 34),stA P Γ M]++J (M.length)::l) h\/St Z ([own C (.cells [.ptr P 0] 34),stA P Γ M]++Q::l) h))) (.stop [0,1,1] T2 [.asr 11,.asr 10,.asr 9,.blk 1 [.ptr 2 0] 34]) ⟨3,0,1,2,5,12⟩ (va {i:=[((eu M).length:Int),ln,ix],b:=[q0],r:=[v3,vv],n:=[B,C,P,MM0,C2],a:=[stA P Γ M,J0,yA q0 (stM Γ P M) (stN P M),mpA clK ctE MM0 M,ctA Γ M,mpA clK ctE MM0 M,lsA 45 4 clE (oneS v3) (eu M),stA P Γ M,jz J 0,lsA 45 4 clE (oneS vv) (eu M),stA P Γ M,jz J ix]}) Z:=by
 intro m
 induction m with
 |zero=>intros;omega
 |succ m ih=>
  intro Z vv ln ix hi hm;refine cZ [0,1,1] T2 [.asr 11,.asr 10,.asr 9,.blk 1 [.ptr 2 0] 34] [] ⟨3,0,1,2,5,12⟩ (.fork (.lt (.v 2) (.v 1)) (.row (.idxA 122 (.raw 1) (vI 2)) [.asr 9] (.raw 2) ⟨3,0,1,3,5,12⟩<|.row (.load 45 (.raw 2)) [.asr 9] (.agg Lr) ⟨7,0,1,3,5,12⟩<|.new<|.swap [.asr 10] [.asr 12] ⟨7,0,2,3,6,13⟩<|.fork (.bv 1) (.swap [.asr 12] [.blk 2 [.map 6] 103,.asr 13,.asr 14] ⟨7,0,2,3,7,15⟩<|.row (.look 101 (.map 6) (.agg Lr) true) [.asr 13] (.tup [.agg NW,TB]) ⟨26,3,8,4,7,15⟩<|.newL [6] [.asr 13]<|.swap [.asr 14] [.asr 15,.asr 16] ⟨26,3,8,4,8,17⟩<|.call 49 [.agg NW] [.asr 16] (.agg Qo) [.asr 17,.asr 18] ⟨45,6,14,5,8,19⟩<|.round 0 [.agg Lr,.agg Qo] [.asr 18,.asr 11] (vB 14) [.asr 19] ⟨45,6,15,5,8,20⟩<|.fork (.bv 14) (.swap [.asr 19] [.asr 20] ⟨45,6,15,5,8,21⟩<|.vc (xI (.add (.v 2) (.z 1)))<|.swap [.blk 2 [.map 6] 103,.asr 13,.asr 15] [.asr 21] ⟨45,6,15,5,8,22⟩<|.stop [0,1,1] [(0,.yield 0),(1,.ptr 1 0),(14,.raw 1),(15,vI 1),(16,I (.add (.v 2) (.z 1)))] [.asr 20,.asr 21,.asr 9,.blk 1 [.ptr 2 0] 34])<|.swap [.asr 19] [.asr 20] ⟨45,6,15,5,8,21⟩<|.swap [.blk 2 [.map 6] 103,.asr 13,.asr 15] [.asr 21] ⟨45,6,15,5,8,22⟩<|.ret (.tup []) [.blk 1 [.ptr 2 0] 34,.asr 21,.asr 20])<|.swap [.asr 12] Md ⟨7,0,2,3,6,13⟩<|.no)<|.ret (.tup []) [.blk 1 [.ptr 2 0] 34,.asr 10,.asr 11]) 100000 bm (λ_ h=>by cases h) ?_;refine bo (ix<ln) rfl (λcd1=>?_) λcd1=>?_
  .refine drT {r:=[(elP (oneS vv) (Int.toNat ix*4))]} (λl h hs=>ga (m:=l) (h:=h) (i:=ix) rfl rfl hs jc jc) ?_;refine drT {i:=[(kC M ix).1,(kC M ix).2.1,(kC M ix).2.2.1,(kC M ix).2.2.2]} (λl h hs=>ky (m:=l) (h:=h) (i:=ix) rfl rfl hs jc jc) ?_;refine bA λbk5=>?_;refine bQ (α:=Bool) (λ(q100:Bool)=>{b:=[q100],a:=[yA q100 (stM Γ P M) (stN P M)]}) (λ(_:Bool)=>True) (λl h hs=>pP (hs) (m:=l) (h:=h)) λq100 _=>?_;refine bo (q100=true) rfl (λcd2=>?_) λcd2=>?_
   .refine bQ (α:=Nat) (λ(MM100:Nat)=>{n:=[MM100],a:=[mpA clK ctE MM100 M,ctA Γ M]}) (λ(MM100:Nat)=>True) (λl h hs=>v7 cd2 (hs) (m:=l) (h:=h)) λMM100 qs101=>?_;refine drT {i:=[(((mget M (eC (kC M ix)))).k),(((mget M (eC (kC M ix)))).vk),(((mget M (eC (kC M ix)))).m),(((mget M (eC (kC M ix)))).e),(((mget M (eC (kC M ix)))).f),(((mget M (eC (kC M ix)))).x.k),(((mget M (eC (kC M ix)))).x.v0),(((mget M (eC (kC M ix)))).x.v1),(((mget M (eC (kC M ix)))).x.v2),(((mget M (eC (kC M ix)))).x.v5),(((mget M (eC (kC M ix)))).x.a0),(((mget M (eC (kC M ix)))).x.a1),(((mget M (eC (kC M ix)))).x.a2),(((mget M (eC (kC M ix)))).x.a3),(((mget M (eC (kC M ix)))).x.b0),(((mget M (eC (kC M ix)))).x.b1),(((mget M (eC (kC M ix)))).x.b2),(((mget M (eC (kC M ix)))).x.b3),(((mget M (eC (kC M ix)))).x.rows)],t:=[(((mget M (eC (kC M ix)))).t),(((mget M (eC (kC M ix)))).x.v3),(((mget M (eC (kC M ix)))).x.name)],b:=[(((mget M (eC (kC M ix)))).b),(((mget M (eC (kC M ix)))).x.v4),(((mget M (eC (kC M ix)))).x.a4),(((mget M (eC (kC M ix)))).x.a5),(((mget M (eC (kC M ix)))).x.b4),(((mget M (eC (kC M ix)))).x.b5)],r:=[(((mget M (eC (kC M ix)))).K)]} (λl h hs=>pM (m:=l) (h:=h) (kc:=clK) (ve:=ctE) (L:=M) (k:=(eC (kC M ix))) rfl lU jc hs) ?_;refine AY (λl h hs n hn=>by obtain rfl:=List.mem_singleton.1 hn;exact Gb (m:=l) (h:=h) hs) λbk7=>?_;refine bQ (α:=Unit) (λ(_:Unit)=>{a:=[ctA Γ M,br Γ (oneS (((mget M (eC (kC M ix)))).K)) (mget M (eC (kC M ix))).ks]}) (λ(_:Unit)=>NilK (mget M (eC (kC M ix))).K (mget M (eC (kC M ix))).ks) (λl h hs=>⟨(),Lv jc (hs) (m:=l) (h:=h)⟩) λ_ qs103=>?_;refine bS (λ(w104:SV)=>{i:=[(((mget M (eC (kC M ix)))).k),(((mget M (eC (kC M ix)))).vk),(((mget M (eC (kC M ix)))).m),(((mget M (eC (kC M ix)))).e),(((mget M (eC (kC M ix)))).f),(((mget M (eC (kC M ix)))).x.k),(((mget M (eC (kC M ix)))).x.v0),(((mget M (eC (kC M ix)))).x.v1),(((mget M (eC (kC M ix)))).x.v2),(((mget M (eC (kC M ix)))).x.v5),(((mget M (eC (kC M ix)))).x.a0),(((mget M (eC (kC M ix)))).x.a1),(((mget M (eC (kC M ix)))).x.a2),(((mget M (eC (kC M ix)))).x.a3),(((mget M (eC (kC M ix)))).x.b0),(((mget M (eC (kC M ix)))).x.b1),(((mget M (eC (kC M ix)))).x.b2),(((mget M (eC (kC M ix)))).x.b3),(((mget M (eC (kC M ix)))).x.rows)],t:=[(((mget M (eC (kC M ix)))).t),(((mget M (eC (kC M ix)))).x.v3),(((mget M (eC (kC M ix)))).x.name)],b:=[(((mget M (eC (kC M ix)))).b),(((mget M (eC (kC M ix)))).x.v4),(((mget M (eC (kC M ix)))).x.a4),(((mget M (eC (kC M ix)))).x.a5),(((mget M (eC (kC M ix)))).x.b4),(((mget M (eC (kC M ix)))).x.b5)],r:=[w104],a:=[br Γ (oneS (((mget M (eC (kC M ix)))).K)) ((mget M (eC (kC M ix))).ks),br Γ (oneS w104) ((mget M (eC (kC M ix))).ks)]}) _ (λ_ _=>Bm Γ (((mget M (eC (kC M ix)))).k) (((mget M (eC (kC M ix)))).vk) (((mget M (eC (kC M ix)))).m) (((mget M (eC (kC M ix)))).e) (((mget M (eC (kC M ix)))).t) (((mget M (eC (kC M ix)))).b) (((mget M (eC (kC M ix)))).f) ((mget M (eC (kC M ix)))).x (((mget M (eC (kC M ix)))).K) ((mget M (eC (kC M ix))).ks) jc jc jc) λZ w104 qd104=>?_;refine pQ (λ(v105:Bool)=>{b:=[v105],a:=[yA v105 (jz J (ix+1)) Q]}) (λ_=>True) (λl h hs=>lG (gs:=[br Γ (oneS w104) ((mget M (eC (kC M ix))).ks)]) (rv:=w104) hr (x:=ix) jc jc (by have e0:=Int.toNat_of_nonneg (show(0:Int)<=ix from jc);first|(simp only[e0];done)|(simp only[e0];rfl)|(simp only[e0];first|with_reducible exact(hk.get (cM bj bj)).x|first|omega|(and_intros<;>intros<;>and_intros<;>first|omega|assumption|(have w9:M=[]:=by assumption;rw[w9]at*;simp only[eu,aY,aw]at*;omega)|exact cM bj bj|exact(hk.get (cM bj bj)).x|exact(hk.get (cM bj bj)).n|(rw[(by assumption:M=[])];simp;done)|(have w1:=hk.l;simp only[eu,ao]at*;omega)|exact V1))) (by first|rfl|(simp only[Int.toNat_of_nonneg (show(0:Int)<=ix from by first|with_reducible exact(hk.get (cM bj bj)).x|first|omega|(and_intros<;>intros<;>and_intros<;>first|omega|assumption|(have w9:M=[]:=by assumption;rw[w9]at*;simp only[eu,aY,aw]at*;omega)|exact cM bj bj|exact(hk.get (cM bj bj)).x|exact(hk.get (cM bj bj)).n|(rw[(by assumption:M=[])];simp;done)|(have w1:=hk.l;simp only[eu,ao]at*;omega)|exact V1))];done)|(simp only[Int.toNat_of_nonneg (show(0:Int)<=ix from by first|with_reducible exact(hk.get (cM bj bj)).x|first|omega|(and_intros<;>intros<;>and_intros<;>first|omega|assumption|(have w9:M=[]:=by assumption;rw[w9]at*;simp only[eu,aY,aw]at*;omega)|exact cM bj bj|exact(hk.get (cM bj bj)).x|exact(hk.get (cM bj bj)).n|(rw[(by assumption:M=[])];simp;done)|(have w1:=hk.l;simp only[eu,ao]at*;omega)|exact V1))];first|with_reducible exact(hk.get (cM bj bj)).x|first|omega|(and_intros<;>intros<;>and_intros<;>first|omega|assumption|(have w9:M=[]:=by assumption;rw[w9]at*;simp only[eu,aY,aw]at*;omega)|exact cM bj bj|exact(hk.get (cM bj bj)).x|exact(hk.get (cM bj bj)).n|(rw[(by assumption:M=[])];simp;done)|(have w1:=hk.l;simp only[eu,ao]at*;omega)|exact V1))) hs) λZ v105 _=>?_;refine bo (v105=true) rfl (λcd3=>?_) λcd3=>?_
    .refine dsU {a:=[jz J (ix+1)]} (λl h hs=>EA cd3 (hs) (l:=l) (h:=h)) ?_;refine bE (show I6 (ix+1)from jc) ?_;refine dsU {a:=[stA P Γ M]} (λl h hs=>gI (hs) (m:=l) (h:=h)) ?_;exact bu (ih _ vv ln (ix+1) jc jc) rfl rfl
    .refine dsU {a:=[Q]} (λl h hs=>C9 cd3 (hs) (l:=l) (h:=h)) ?_;refine dsU {a:=[stA P Γ M]} (λl h hs=>gI (hs) (m:=l) (h:=h)) ?_;exact an λh hs=>.inr hs
   .refine bQ (α:=Unit) (λ(_:Unit)=>{}) (λ(_:Unit)=>M=[]) (λl h hs=>⟨(),Cg cd2 (hs) (m:=l) (h:=h)⟩) λ_ qs110=>?_;exact JH jc
  .exact an λh hs=>.inl (wz (la:=[own C (.cells [.ptr P 0] 34),stA P Γ M]) jc hs)
theorem N4(C P:Nat)(M:List (CK×CT))(hk:StOk M):zO Tryz.prog Γ 45 [] [.ptr C 0] (M.length) (λ(k:Nat) (rv:SV)=>[.agg [iV (kC M k).1,iV (kC M k).2.1,iV (kC M k).2.2.1,iV (kC M k).2.2.2],.agg [iV ((mget M (eC (kC M k))).k),iV ((mget M (eC (kC M k))).vk),iV ((mget M (eC (kC M k))).m),iV ((mget M (eC (kC M k))).e),sV ((mget M (eC (kC M k))).t),bV ((mget M (eC (kC M k))).b),iV ((mget M (eC (kC M k))).f),iV ((mget M (eC (kC M k))).x.k),iV ((mget M (eC (kC M k))).x.v0),iV ((mget M (eC (kC M k))).x.v1),iV ((mget M (eC (kC M k))).x.v2),sV ((mget M (eC (kC M k))).x.v3),bV ((mget M (eC (kC M k))).x.v4),iV ((mget M (eC (kC M k))).x.v5),sV ((mget M (eC (kC M k))).x.name),iV ((mget M (eC (kC M k))).x.a0),iV ((mget M (eC (kC M k))).x.a1),iV ((mget M (eC (kC M k))).x.a2),iV ((mget M (eC (kC M k))).x.a3),bV ((mget M (eC (kC M k))).x.a4),bV ((mget M (eC (kC M k))).x.a5),iV ((mget M (eC (kC M k))).x.b0),iV ((mget M (eC (kC M k))).x.b1),iV ((mget M (eC (kC M k))).x.b2),iV ((mget M (eC (kC M k))).x.b3),bV ((mget M (eC (kC M k))).x.b4),bV ((mget M (eC (kC M k))).x.b5),iV ((mget M (eC (kC M k))).x.rows),(oneS rv)]]) (λ(k:Nat) (rv:SV)=>[br Γ (oneS rv) (mget M (eC (kC M k))).ks]) [own C (.cells [.ptr P 0] 34),stA P Γ M] []:=by
 intro Z B J0 J Q l h h0 hr hs;refine rZ (Q:=λZ _ h=>St Z ([own C (.cells [.ptr P 0] 34),stA P Γ M]++J (M.length)::l) h\/St Z ([own C (.cells [.ptr P 0] 34),stA P Γ M]++Q::l) h) Tryz.f45 Tryz.func45 bm [.yield 0,.ptr 1 0] [.blk 1 [.ptr 2 0] 34,.asr 0,.asr 1] ⟨0,0,0,0,3,2⟩ (va {n:=[B,C,P],a:=[stA P Γ M,J0]}) (.swap [.asr 0] [.asr 2] ⟨0,0,1,0,3,3⟩<|.fork (.bv 0) (.swap [.asr 2] [.blk 2 [.map 3] 103,.asr 3,.asr 4] ⟨0,0,1,0,4,5⟩<|.call 47 [.map 3] [] (.fn 81 [] [.ptr 4 0]) [.blk 4 [.map 3] 101] ⟨0,0,1,0,5,5⟩<|.call 46 [.fn 81 [] [.ptr 4 0],.lit (.func (.func 48) #[] #[])] [.blk 4 [.map 3] 101,.asr 3] (.raw 0) [.asr 5,.asr 6] ⟨0,0,1,1,5,7⟩<|.row (.len 122 (.raw 0)) [.asr 6] (vI 0) ⟨1,0,1,1,5,7⟩<|.swap [.blk 2 [.map 3] 103,.asr 5,.asr 4] [.asr 7] ⟨1,0,1,1,5,8⟩<|.swap [.asr 1] [.asr 8] ⟨1,0,1,1,5,9⟩<|.stop [0,1,1] T3 [.asr 8,.asr 7,.asr 6,.blk 1 [.ptr 2 0] 34])<|.swap [.asr 2] Md ⟨0,0,1,0,3,3⟩<|.call 47 [.lit (.map none)] [] (.fn 81 [] [.ptr 3 0]) [.blk 3 [.lit (.map none)] 101] ⟨0,0,1,0,4,3⟩<|.call 46 [.fn 81 [] [.ptr 3 0],.lit (.func (.func 48) #[] #[])] [.blk 3 [.lit (.map none)] 101] (.raw 0) [.asr 3] ⟨0,0,1,1,4,4⟩<|.row (.len 122 (.raw 0)) [.asr 3] (vI 0) ⟨1,0,1,1,4,4⟩<|.swap [.asr 3] [.asr 4] ⟨1,0,1,1,4,5⟩<|.swap Md [.asr 5] ⟨1,0,1,1,4,6⟩<|.swap [.asr 1] [.asr 6] ⟨1,0,1,1,4,7⟩<|.stop [0,1,1] T3 [.asr 6,.asr 5,.asr 4,.blk 1 [.ptr 2 0] 34]) 100000 bm hs rfl ?_;refine bQ (α:=Bool) (λ(q0:Bool)=>{b:=[q0],a:=[yA q0 (stM Γ P M) (stN P M)]}) (λ(_:Bool)=>True) (λl h hs=>pP (hs) (m:=l) (h:=h)) λq0 _=>?_;refine bo (q0=true) rfl (λcd1=>?_) λcd1=>?_
 .refine bQ (α:=Nat) (λ(MM0:Nat)=>{n:=[MM0],a:=[mpA clK ctE MM0 M,ctA Γ M]}) (λ(MM0:Nat)=>True) (λl h hs=>v7 cd1 (hs) (m:=l) (h:=h)) λMM0 qs1=>?_;refine bS (λ(C2:Nat)=>{n:=[C2]}) _ (λ_ _=>Qq Γ MM0) λZ C2 qd2=>?_;refine bS (λ(v3:SV)=>{r:=[v3],a:=[mpA clK ctE MM0 M,lsA 45 4 clE (oneS v3) (eu M)]}) _ (λ_ _=>PL Γ C2 MM0 M jc) λZ v3 qd3=>?_;refine drT {i:=[((eu M).length:Int)]} (λl h hs=>eD (m:=l) (h:=h) rfl (λ_=>rfl) hs) ?_;refine dsU {a:=[stA P Γ M]} (λl h hs=>gI (hs) (m:=l) (h:=h)) ?_;refine dsU {a:=[jz J 0]} (λl h hs=>h0 _ _ _ hs) ?_;exact bu (B5 Γ C P M hk h0 hr q0 MM0 C2 v3 _ _ v3 ((eu M).length:Int) 0 jc (aq _)) rfl rfl
 .refine bQ (α:=Unit) (λ(_:Unit)=>{}) (λ(_:Unit)=>M=[]) (λl h hs=>⟨(),Cg cd1 (hs) (m:=l) (h:=h)⟩) λ_ qs6=>?_;refine bS (λ(C7:Nat)=>{n:=[C7]}) _ (λ_ _=>Qj Γ) λZ C7 qd7=>?_;refine bS (λ(v8:SV)=>{r:=[v8],a:=[lsA 45 4 clE (oneS v8) ([]:List CK)]}) _ (λ_ _=>Ow Γ C7) λZ v8 qd8=>?_;refine drT {i:=[(([]:List CK).length:Int)]} (λl h hs=>eD (m:=l) (h:=h) rfl (λ_=>rfl) hs) ?_;refine dsU {a:=[lsA 45 4 clE (oneS v8) (eu M)]} (λl h hs=>KO jc (hs) (m:=l) (h:=h)) ?_;refine dsU {a:=[stA P Γ M]} (λl h hs=>ur jc (hs) (m:=l) (h:=h)) ?_;refine dsU {a:=[jz J 0]} (λl h hs=>h0 _ _ _ hs) ?_;exact bu (B5 Γ C P M hk h0 hr q0 0 0 (.lit .nilIface) _ _ v8 (([]:List CK).length:Int) 0 jc (aq _)) rfl rfl
abbrev QG:List XV:=(nX 17 3 7 (.raw 4))
abbrev Qt:List XV:=(nX 3 1 2 (.raw 3))
abbrev L7:List MI:=[.blk 2 [.lit (.map none)] 106]
theorem jU{P:Prop}(h:P:=by first|omega|(and_intros<;>intros<;>and_intros<;>first|omega|assumption|(have w9:N=[]:=by assumption;rw[w9]at*;simp only[bw,aY,aw]at*;omega)|exact fd bj bj|exact(hk.get (fd bj bj)).n|(rw[(by assumption:N=[])];simp;done)|(have w1:=hk.l;simp only[bw,ao]at*;omega)|exact V1)):P:=h
def txE(s:bn):List SV:=[sV s]
def leB(a b:bn):Bool:=Go.Op.bytesLess a b||(a==b)
theorem Im{P:Program}{t:TypeId}(a b:bn)(xo yo:Operand):one (binQ P .leq t xo yo (sV a) (sV b))=some (bV (leB a b),[]):=by
 rw[show sV a=.lit (.string ⟨⟨a⟩⟩)from rfl,show sV b=.lit (.string ⟨⟨b⟩⟩)from rfl,dH (v:=.bool (Go.Op.bytesLess (⟨⟨a⟩⟩:ByteArray).toList (⟨⟨b⟩⟩:ByteArray).toList||((⟨⟨a⟩⟩:ByteArray).toList==(⟨⟨b⟩⟩:ByteArray).toList))) rfl rfl,iI,iI];rfl
theorem p8{a b:bn}:leB b a=false↔a<b:=by
 unfold leB;rw[Go.Proofs.YtbhokokpplmigaaGreatDoor.fr.less_lt,Bool.or_eq_false_iff,decide_eq_false_iff_not,beq_eq_false_iff_ne];constructor
 .rintro⟨h1,h2⟩;rcases List.le_iff_lt_or_eq.1 (List.not_lt.1 h1)with h|h
  .exact h
  .exact absurd h.symm h2
 .intro h;exact⟨λh2=>List.lt_irrefl _ (List.lt_trans h h2),λe=>List.lt_irrefl a (by rw[e]at h;exact h)⟩
structure TrOk(c:NT):Prop where
 n:(sizeL c.ks:Int)<=5000
 o:OkT (Tr.mk c.x c.ks)
 e:checkB (Tr.mk c.x c.ks)=0/\((codeT (Tr.mk c.x c.ks)).length:Int)<=3000
structure NtOk(N:List (bn×NT)):Prop where
 s:List.Pairwise (λa b:bn=>leB b a=false) (N.map Prod.fst)
 c:∀y∈N,TrOk y.2
 l:(N.length:Int)<=100
abbrev bw(N:List (bn×NT)):List bn:=N.map Prod.fst
theorem fd{N:List (bn×NT)}{i:Int}(h0:0<=i)(h1:i<((bw N).length:Int)):iA N (lget (bw N) i)=true:=r6 (fz h0 h1)
theorem NtOk.get{N:List (bn×NT)}{k:bn}(w:NtOk N)(h:iA N k=true):TrOk (mget N k):=w.c _ (ny h)
abbrev Pj(Γ:Glob)(MM:Nat):TG:=λl Zq vq hq=>∃C:Nat,(True)/\vq=.func (.func 92) [] [.ptr C 0]/\St Zq (own C (.cells [.map MM] 104)::l) hq
theorem QS(MM:Nat)(hs:St Z0 (l) h):RC Γ Z0 55 [.map MM] h (Pj Γ MM l):=by
 refine bL Tryz.f55 Tryz.func55 [.map 0] [] ⟨0,0,0,0,1,0⟩ (va {n:=[MM]}) (.new<|.ret (.fn 92 [] [.ptr 1 0]) [.blk 1 [.map 0] 104]) hs ?_;refine bA λbk1=>?_;exact an λh hs=>⟨bk1,TH,rfl,hs⟩
abbrev Rf(Γ:Glob):TG:=λl Zq vq hq=>∃C:Nat,(True)/\vq=.func (.func 92) [] [.ptr C 0]/\St Zq (own C (.cells [.lit (.map none)] 104)::l) hq
theorem O6(hs:St Z0 (l) h):RC Γ Z0 55 [.lit (.map none)] h (Rf Γ l):=by
 refine bL Tryz.f55 Tryz.func55 [.lit (.map none)] [] {} (va {}) (.new<|.ret (.fn 92 [] [.ptr 0 0]) [.blk 0 [.lit (.map none)] 104]) hs ?_;refine bA λbk0=>?_;exact an λh hs=>⟨bk0,TH,rfl,hs⟩
theorem Pv(C MM:Nat)(N:List (bn×NT))(hs0:NtOk N)(hs:St Z0 (own C (.cells [.map MM] 104)::mpA tK ntE MM N::l) h):RC Γ Z0 54 [.func (.func 92) [] [.ptr C 0]] h λZq vq hq=>∃v:SV,(True)/\vq=(oneS v)/\St Zq (mpA tK ntE MM N::lsA 9 1 txE (oneS v) (bw N)::l) hq:=by
 exact wo (by have w1:=hs0.l;omega) (hs0.s.imp λh=>p8.1 h) hs
theorem PU(C:Nat)(hs:St Z0 (own C (.cells [.lit (.map none)] 104)::l) h):RC Γ Z0 54 [.func (.func 92) [] [.ptr C 0]] h λZq vq hq=>∃v:SV,(True)/\vq=(oneS v)/\St Zq (lsA 9 1 txE (oneS v) ([]:List bn)::l) hq:=by
 exact sb hs
abbrev OQ(Γ:Glob)(P:Nat):TG:=λl Zq vq hq=>∃C:Nat,(True)/\vq=.func (.func 53) [] [.ptr C 0]/\St Zq (own C (.cells [.ptr P 0] 36)::l) hq
theorem Pi(P:Nat)(hs:St Z0 (l) h):RC Γ Z0 24 [.ptr P 0] h (OQ Γ P l):=by
 refine bL Tryz.f24 Tryz.func24 [.ptr 0 0] [] ⟨0,0,0,0,1,0⟩ (va {n:=[P]}) (.new<|.ret (.fn 53 [] [.ptr 1 0]) [.blk 1 [.ptr 0 0] 36]) hs ?_;refine bA λbk1=>?_;exact an λh hs=>⟨bk1,TH,rfl,hs⟩
theorem Cd(C P:Nat)(N:List (bn×NT))(hk:NtOk N){Z0:Hp}{B:Nat}{J0:Asrt}{J:Nat->Asrt}{Q:Asrt}(h0:∀Z l h,St Z ([]++J0::l) h->St Z (J 0::l) h)(hr:my Tryz.prog Γ B (N.length) (λ(k:Nat) (rv:SV)=>[sV (lget (bw N) (k:Int)),.agg [iV ((mget N (lget (bw N) (k:Int))).x.k),iV ((mget N (lget (bw N) (k:Int))).x.v0),iV ((mget N (lget (bw N) (k:Int))).x.v1),iV ((mget N (lget (bw N) (k:Int))).x.v2),sV ((mget N (lget (bw N) (k:Int))).x.v3),bV ((mget N (lget (bw N) (k:Int))).x.v4),iV ((mget N (lget (bw N) (k:Int))).x.v5),sV ((mget N (lget (bw N) (k:Int))).x.name),iV ((mget N (lget (bw N) (k:Int))).x.a0),iV ((mget N (lget (bw N) (k:Int))).x.a1),iV ((mget N (lget (bw N) (k:Int))).x.a2),iV ((mget N (lget (bw N) (k:Int))).x.a3),bV ((mget N (lget (bw N) (k:Int))).x.a4),bV ((mget N (lget (bw N) (k:Int))).x.a5),iV ((mget N (lget (bw N) (k:Int))).x.b0),iV ((mget N (lget (bw N) (k:Int))).x.b1),iV ((mget N (lget (bw N) (k:Int))).x.b2),iV ((mget N (lget (bw N) (k:Int))).x.b3),bV ((mget N (lget (bw N) (k:Int))).x.b4),bV ((mget N (lget (bw N) (k:Int))).x.b5),iV ((mget N (lget (bw N) (k:Int))).x.rows),(oneS rv)]]) (λ(k:Nat) (rv:SV)=>[br Γ (oneS rv) (mget N (lget (bw N) (k:Int))).ks]) J Q)(q0:Bool)(MM0 C2:Nat)(v3:SV){l:List Asrt}:∀(m:Nat) (Z:Hp) (vv:SV) (ln ix:Int) (hi:0<=ix/\ix<=(N.length:Int)/\ln=((bw N).length:Int)) (hm:((N.length:Int)-ix).toNat<m),den (fnC Tryz.prog Γ Tryz.f53 2 [] (d4 Z0::l) (dz Z0 (λZ _ h=>St Z ([own C (.cells [.ptr P 0] 36),tbA P Γ N]++J (N.length)::l) h\/St Z ([own C (.cells [.ptr P 0] 36),tbA P Γ N]++Q::l) h))) (.stop [0,1,1] T2 [.asr 11,.asr 10,.asr 9,.blk 1 [.ptr 2 0] 36]) ⟨3,0,1,2,5,12⟩ (va {i:=[((bw N).length:Int),ln,ix],b:=[q0],r:=[v3,vv],n:=[B,C,P,MM0,C2],a:=[tbA P Γ N,J0,yA q0 (tbM Γ P N) (tbN P N),mpA tK ntE MM0 N,ntA Γ N,mpA tK ntE MM0 N,lsA 9 1 txE (oneS v3) (bw N),tbA P Γ N,jz J 0,lsA 9 1 txE (oneS vv) (bw N),tbA P Γ N,jz J ix]}) Z:=by
 intro m
 induction m with
 |zero=>intros;omega
 |succ m ih=>
  intro Z vv ln ix hi hm;refine cZ [0,1,1] T2 [.asr 11,.asr 10,.asr 9,.blk 1 [.ptr 2 0] 36] [] ⟨3,0,1,2,5,12⟩ (.fork (.lt (.v 2) (.v 1)) (.row (.idxA 59 (.raw 1) (vI 2)) [.asr 9] (.raw 2) ⟨3,0,1,3,5,12⟩<|.row (.load 9 (.raw 2)) [.asr 9] (vT 0) ⟨3,1,1,3,5,12⟩<|.swap [.asr 10] [.asr 12] ⟨3,1,2,3,5,13⟩<|.fork (.bv 1) (.swap [.asr 12] [.blk 2 [.map 5] 106,.asr 13,.asr 14] ⟨3,1,2,3,6,15⟩<|.row (.look 104 (.map 5) (vT 0) true) [.asr 13] (.tup [.agg Qt,TB]) ⟨17,3,7,4,6,15⟩<|.new<|.swap [.asr 14] [.asr 15,.asr 16] ⟨17,3,7,4,7,17⟩<|.call 56 [.agg Qt] [.asr 16] (.agg QG) [.asr 17,.asr 18] ⟨31,5,12,5,7,19⟩<|.round 0 [vT 0,.agg QG] [.asr 18,.asr 11] (vB 12) [.asr 19] ⟨31,5,13,5,7,20⟩<|.fork (.bv 12) (.swap [.asr 19] [.asr 20] ⟨31,5,13,5,7,21⟩<|.vc (xI (.add (.v 2) (.z 1)))<|.swap [.blk 2 [.map 5] 106,.asr 13,.asr 15] [.asr 21] ⟨31,5,13,5,7,22⟩<|.stop [0,1,1] [(0,.yield 0),(1,.ptr 1 0),(14,.raw 1),(15,vI 1),(16,I (.add (.v 2) (.z 1)))] [.asr 20,.asr 21,.asr 9,.blk 1 [.ptr 2 0] 36])<|.swap [.asr 19] [.asr 20] ⟨31,5,13,5,7,21⟩<|.swap [.blk 2 [.map 5] 106,.asr 13,.asr 15] [.asr 21] ⟨31,5,13,5,7,22⟩<|.ret (.tup []) [.blk 1 [.ptr 2 0] 36,.asr 21,.asr 20])<|.swap [.asr 12] L7 ⟨3,1,2,3,5,13⟩<|.no)<|.ret (.tup []) [.blk 1 [.ptr 2 0] 36,.asr 10,.asr 11]) 100000 bm (λ_ h=>by cases h) ?_;refine bo (ix<ln) rfl (λcd1=>?_) λcd1=>?_
  .refine drT {r:=[(elP (oneS vv) (Int.toNat ix*1))]} (λl h hs=>ga (m:=l) (h:=h) (i:=ix) rfl rfl hs jU jU) ?_;refine drT {t:=[(lget (bw N) ix)]} (λl h hs=>iO (m:=l) (h:=h) (i:=ix) rfl rfl hs jU jU rfl) ?_;refine bQ (α:=Bool) (λ(q100:Bool)=>{b:=[q100],a:=[yA q100 (tbM Γ P N) (tbN P N)]}) (λ(_:Bool)=>True) (λl h hs=>wh (hs) (m:=l) (h:=h)) λq100 _=>?_;refine bo (q100=true) rfl (λcd2=>?_) λcd2=>?_
   .refine bQ (α:=Nat) (λ(MM100:Nat)=>{n:=[MM100],a:=[mpA tK ntE MM100 N,ntA Γ N]}) (λ(MM100:Nat)=>True) (λl h hs=>AG cd2 (hs) (m:=l) (h:=h)) λMM100 qs101=>?_;refine drT {i:=[(((mget N (lget (bw N) ix))).x.k),(((mget N (lget (bw N) ix))).x.v0),(((mget N (lget (bw N) ix))).x.v1),(((mget N (lget (bw N) ix))).x.v2),(((mget N (lget (bw N) ix))).x.v5),(((mget N (lget (bw N) ix))).x.a0),(((mget N (lget (bw N) ix))).x.a1),(((mget N (lget (bw N) ix))).x.a2),(((mget N (lget (bw N) ix))).x.a3),(((mget N (lget (bw N) ix))).x.b0),(((mget N (lget (bw N) ix))).x.b1),(((mget N (lget (bw N) ix))).x.b2),(((mget N (lget (bw N) ix))).x.b3),(((mget N (lget (bw N) ix))).x.rows)],t:=[(((mget N (lget (bw N) ix))).x.v3),(((mget N (lget (bw N) ix))).x.name)],b:=[(((mget N (lget (bw N) ix))).x.v4),(((mget N (lget (bw N) ix))).x.a4),(((mget N (lget (bw N) ix))).x.a5),(((mget N (lget (bw N) ix))).x.b4),(((mget N (lget (bw N) ix))).x.b5)],r:=[(((mget N (lget (bw N) ix))).K)]} (λl h hs=>pM (m:=l) (h:=h) (kc:=tK) (ve:=ntE) (L:=N) (k:=(lget (bw N) ix)) rfl gO jU hs) ?_;refine bA λbk6=>?_;refine bQ (α:=Unit) (λ(_:Unit)=>{a:=[ntA Γ N,br Γ (oneS (((mget N (lget (bw N) ix))).K)) (mget N (lget (bw N) ix)).ks]}) (λ(_:Unit)=>True) (λl h hs=>⟨(),M7 jU (hs) (m:=l) (h:=h)⟩) λ_ qs103=>?_;refine bS (λ(w104:SV)=>{i:=[(((mget N (lget (bw N) ix))).x.k),(((mget N (lget (bw N) ix))).x.v0),(((mget N (lget (bw N) ix))).x.v1),(((mget N (lget (bw N) ix))).x.v2),(((mget N (lget (bw N) ix))).x.v5),(((mget N (lget (bw N) ix))).x.a0),(((mget N (lget (bw N) ix))).x.a1),(((mget N (lget (bw N) ix))).x.a2),(((mget N (lget (bw N) ix))).x.a3),(((mget N (lget (bw N) ix))).x.b0),(((mget N (lget (bw N) ix))).x.b1),(((mget N (lget (bw N) ix))).x.b2),(((mget N (lget (bw N) ix))).x.b3),(((mget N (lget (bw N) ix))).x.rows)],t:=[(((mget N (lget (bw N) ix))).x.v3),(((mget N (lget (bw N) ix))).x.name)],b:=[(((mget N (lget (bw N) ix))).x.v4),(((mget N (lget (bw N) ix))).x.a4),(((mget N (lget (bw N) ix))).x.a5),(((mget N (lget (bw N) ix))).x.b4),(((mget N (lget (bw N) ix))).x.b5)],r:=[w104],a:=[br Γ (oneS (((mget N (lget (bw N) ix))).K)) ((mget N (lget (bw N) ix)).ks),br Γ (oneS w104) ((mget N (lget (bw N) ix)).ks)]}) _ (λ_ _=>CD Γ ((mget N (lget (bw N) ix))).x (((mget N (lget (bw N) ix))).K) ((mget N (lget (bw N) ix)).ks) jU) λZ w104 qd104=>?_;refine pQ (λ(v105:Bool)=>{b:=[v105],a:=[yA v105 (jz J (ix+1)) Q]}) (λ_=>True) (λl h hs=>lG (gs:=[br Γ (oneS w104) ((mget N (lget (bw N) ix)).ks)]) (rv:=w104) hr (x:=ix) jU jU (by have e0:=Int.toNat_of_nonneg (show(0:Int)<=ix from jU);first|(simp only[e0];done)|(simp only[e0];rfl)|(simp only[e0];first|omega|(and_intros<;>intros<;>and_intros<;>first|omega|assumption|(have w9:N=[]:=by assumption;rw[w9]at*;simp only[bw,aY,aw]at*;omega)|exact fd bj bj|exact(hk.get (fd bj bj)).n|(rw[(by assumption:N=[])];simp;done)|(have w1:=hk.l;simp only[bw,ao]at*;omega)|exact V1))) (by first|rfl|(simp only[Int.toNat_of_nonneg (show(0:Int)<=ix from by first|omega|(and_intros<;>intros<;>and_intros<;>first|omega|assumption|(have w9:N=[]:=by assumption;rw[w9]at*;simp only[bw,aY,aw]at*;omega)|exact fd bj bj|exact(hk.get (fd bj bj)).n|(rw[(by assumption:N=[])];simp;done)|(have w1:=hk.l;simp only[bw,ao]at*;omega)|exact V1))];done)|(simp only[Int.toNat_of_nonneg (show(0:Int)<=ix from by first|omega|(and_intros<;>intros<;>and_intros<;>first|omega|assumption|(have w9:N=[]:=by assumption;rw[w9]at*;simp only[bw,aY,aw]at*;omega)|exact fd bj bj|exact(hk.get (fd bj bj)).n|(rw[(by assumption:N=[])];simp;done)|(have w1:=hk.l;simp only[bw,ao]at*;omega)|exact V1))];first|omega|(and_intros<;>intros<;>and_intros<;>first|omega|assumption|(have w9:N=[]:=by assumption;rw[w9]at*;simp only[bw,aY,aw]at*;omega)|exact fd bj bj|exact(hk.get (fd bj bj)).n|(rw[(by assumption:N=[])];simp;done)|(have w1:=hk.l;simp only[bw,ao]at*;omega)|exact V1))) hs) λZ v105 _=>?_;refine bo (v105=true) rfl (λcd3=>?_) λcd3=>?_
    .refine dsU {a:=[jz J (ix+1)]} (λl h hs=>EA cd3 (hs) (l:=l) (h:=h)) ?_;refine bE (show I6 (ix+1)from jU) ?_;refine dsU {a:=[tbA P Γ N]} (λl h hs=>gF (hs) (m:=l) (h:=h)) ?_;exact bu (ih _ vv ln (ix+1) jU jU) rfl rfl
    .refine dsU {a:=[Q]} (λl h hs=>C9 cd3 (hs) (l:=l) (h:=h)) ?_;refine dsU {a:=[tbA P Γ N]} (λl h hs=>gF (hs) (m:=l) (h:=h)) ?_;exact an λh hs=>.inr hs
   .refine bQ (α:=Unit) (λ(_:Unit)=>{}) (λ(_:Unit)=>N=[]) (λl h hs=>⟨(),GS cd2 (hs) (m:=l) (h:=h)⟩) λ_ qs110=>?_;exact JH jU
  .exact an λh hs=>.inl (wz (la:=[own C (.cells [.ptr P 0] 36),tbA P Γ N]) jU hs)
theorem Qh(C P:Nat)(N:List (bn×NT))(hk:NtOk N):zO Tryz.prog Γ 53 [] [.ptr C 0] (N.length) (λ(k:Nat) (rv:SV)=>[sV (lget (bw N) (k:Int)),.agg [iV ((mget N (lget (bw N) (k:Int))).x.k),iV ((mget N (lget (bw N) (k:Int))).x.v0),iV ((mget N (lget (bw N) (k:Int))).x.v1),iV ((mget N (lget (bw N) (k:Int))).x.v2),sV ((mget N (lget (bw N) (k:Int))).x.v3),bV ((mget N (lget (bw N) (k:Int))).x.v4),iV ((mget N (lget (bw N) (k:Int))).x.v5),sV ((mget N (lget (bw N) (k:Int))).x.name),iV ((mget N (lget (bw N) (k:Int))).x.a0),iV ((mget N (lget (bw N) (k:Int))).x.a1),iV ((mget N (lget (bw N) (k:Int))).x.a2),iV ((mget N (lget (bw N) (k:Int))).x.a3),bV ((mget N (lget (bw N) (k:Int))).x.a4),bV ((mget N (lget (bw N) (k:Int))).x.a5),iV ((mget N (lget (bw N) (k:Int))).x.b0),iV ((mget N (lget (bw N) (k:Int))).x.b1),iV ((mget N (lget (bw N) (k:Int))).x.b2),iV ((mget N (lget (bw N) (k:Int))).x.b3),bV ((mget N (lget (bw N) (k:Int))).x.b4),bV ((mget N (lget (bw N) (k:Int))).x.b5),iV ((mget N (lget (bw N) (k:Int))).x.rows),(oneS rv)]]) (λ(k:Nat) (rv:SV)=>[br Γ (oneS rv) (mget N (lget (bw N) (k:Int))).ks]) [own C (.cells [.ptr P 0] 36),tbA P Γ N] []:=by
 intro Z B J0 J Q l h h0 hr hs;refine rZ (Q:=λZ _ h=>St Z ([own C (.cells [.ptr P 0] 36),tbA P Γ N]++J (N.length)::l) h\/St Z ([own C (.cells [.ptr P 0] 36),tbA P Γ N]++Q::l) h) Tryz.f53 Tryz.func53 bm [.yield 0,.ptr 1 0] [.blk 1 [.ptr 2 0] 36,.asr 0,.asr 1] ⟨0,0,0,0,3,2⟩ (va {n:=[B,C,P],a:=[tbA P Γ N,J0]}) (.swap [.asr 0] [.asr 2] ⟨0,0,1,0,3,3⟩<|.fork (.bv 0) (.swap [.asr 2] [.blk 2 [.map 3] 106,.asr 3,.asr 4] ⟨0,0,1,0,4,5⟩<|.call 55 [.map 3] [] (.fn 92 [] [.ptr 4 0]) [.blk 4 [.map 3] 104] ⟨0,0,1,0,5,5⟩<|.call 54 [.fn 92 [] [.ptr 4 0]] [.blk 4 [.map 3] 104,.asr 3] (.raw 0) [.asr 5,.asr 6] ⟨0,0,1,1,5,7⟩<|.row (.len 59 (.raw 0)) [.asr 6] (vI 0) ⟨1,0,1,1,5,7⟩<|.swap [.blk 2 [.map 3] 106,.asr 5,.asr 4] [.asr 7] ⟨1,0,1,1,5,8⟩<|.swap [.asr 1] [.asr 8] ⟨1,0,1,1,5,9⟩<|.stop [0,1,1] T3 [.asr 8,.asr 7,.asr 6,.blk 1 [.ptr 2 0] 36])<|.swap [.asr 2] L7 ⟨0,0,1,0,3,3⟩<|.call 55 [.lit (.map none)] [] (.fn 92 [] [.ptr 3 0]) [.blk 3 [.lit (.map none)] 104] ⟨0,0,1,0,4,3⟩<|.call 54 [.fn 92 [] [.ptr 3 0]] [.blk 3 [.lit (.map none)] 104] (.raw 0) [.asr 3] ⟨0,0,1,1,4,4⟩<|.row (.len 59 (.raw 0)) [.asr 3] (vI 0) ⟨1,0,1,1,4,4⟩<|.swap [.asr 3] [.asr 4] ⟨1,0,1,1,4,5⟩<|.swap L7 [.asr 5] ⟨1,0,1,1,4,6⟩<|.swap [.asr 1] [.asr 6] ⟨1,0,1,1,4,7⟩<|.stop [0,1,1] T3 [.asr 6,.asr 5,.asr 4,.blk 1 [.ptr 2 0] 36]) 100000 bm hs rfl ?_;refine bQ (α:=Bool) (λ(q0:Bool)=>{b:=[q0],a:=[yA q0 (tbM Γ P N) (tbN P N)]}) (λ(_:Bool)=>True) (λl h hs=>wh (hs) (m:=l) (h:=h)) λq0 _=>?_;refine bo (q0=true) rfl (λcd1=>?_) λcd1=>?_
 .refine bQ (α:=Nat) (λ(MM0:Nat)=>{n:=[MM0],a:=[mpA tK ntE MM0 N,ntA Γ N]}) (λ(MM0:Nat)=>True) (λl h hs=>AG cd1 (hs) (m:=l) (h:=h)) λMM0 qs1=>?_;refine bS (λ(C2:Nat)=>{n:=[C2]}) _ (λ_ _=>QS Γ MM0) λZ C2 qd2=>?_;refine bS (λ(v3:SV)=>{r:=[v3],a:=[mpA tK ntE MM0 N,lsA 9 1 txE (oneS v3) (bw N)]}) _ (λ_ _=>Pv Γ C2 MM0 N jU) λZ v3 qd3=>?_;refine drT {i:=[((bw N).length:Int)]} (λl h hs=>eD (m:=l) (h:=h) rfl (λ_=>rfl) hs) ?_;refine dsU {a:=[tbA P Γ N]} (λl h hs=>gF (hs) (m:=l) (h:=h)) ?_;refine dsU {a:=[jz J 0]} (λl h hs=>h0 _ _ _ hs) ?_;exact bu (Cd Γ C P N hk h0 hr q0 MM0 C2 v3 _ _ v3 ((bw N).length:Int) 0 jU (aq _)) rfl rfl
 .refine bQ (α:=Unit) (λ(_:Unit)=>{}) (λ(_:Unit)=>N=[]) (λl h hs=>⟨(),GS cd1 (hs) (m:=l) (h:=h)⟩) λ_ qs6=>?_;refine bS (λ(C7:Nat)=>{n:=[C7]}) _ (λ_ _=>O6 Γ) λZ C7 qd7=>?_;refine bS (λ(v8:SV)=>{r:=[v8],a:=[lsA 9 1 txE (oneS v8) ([]:List bn)]}) _ (λ_ _=>PU Γ C7) λZ v8 qd8=>?_;refine drT {i:=[(([]:List bn).length:Int)]} (λl h hs=>eD (m:=l) (h:=h) rfl (λ_=>rfl) hs) ?_;refine dsU {a:=[lsA 9 1 txE (oneS v8) (bw N)]} (λl h hs=>KO jU (hs) (m:=l) (h:=h)) ?_;refine dsU {a:=[tbA P Γ N]} (λl h hs=>s8 jU (hs) (m:=l) (h:=h)) ?_;refine dsU {a:=[jz J 0]} (λl h hs=>h0 _ _ _ hs) ?_;exact bu (Cd Γ C P N hk h0 hr q0 0 0 (.lit .nilIface) _ _ v8 (([]:List bn).length:Int) 0 jU (aq _)) rfl rfl
end Go.Proofs.YtbhokokpplmigaaGreatDoor.Sx
