/-
  A part of the proof of FileReads; no condition.
-/
import Derived.Test.YtbhokokpplmigaaGreatDoorSxGA
import Derived.Test.YtbhokokpplmigaaGreatDoorProg
set_option linter.all false
namespace Go.Proofs.YtbhokokpplmigaaGreatDoor.Sx
open Go Go.Proofs.YtbhokokpplmigaaGreatDoor.Ev
structure ND where
 k:Int
 v0:Int
 v1:Int
 v2:Int
 v3:bn
 v4:Bool
 v5:Int
 name:bn
 a0:Int
 a1:Int
 a2:Int
 a3:Int
 a4:Bool
 a5:Bool
 b0:Int
 b1:Int
 b2:Int
 b3:Int
 b4:Bool
 b5:Bool
 rows:Int
def ND.cells(x:ND)(L:SV):List SV:=[iV x.k,iV x.v0,iV x.v1,iV x.v2,sV x.v3,bV x.v4,iV x.v5,sV x.name,iV x.a0,iV x.a1,iV x.a2,iV x.a3,bV x.a4,bV x.a5,iV x.b0,iV x.b1,iV x.b2,iV x.b3,bV x.b4,bV x.b5,iV x.rows,L]
inductive Tr where
 |mk (x:ND) (ks:List Tr)
def Tr.nd:Tr->ND
 | .mk x _=>x
def Tr.kids:Tr->List Tr
 | .mk _ ks=>ks
mutual
def Tr.size:Tr->Nat
 | .mk _ ks=>sizeL ks+1
def sizeL:List Tr->Nat
 |[]=>0
 |t::ts=>t.size+sizeL ts
end
@[simp] theorem EF:sizeL []=0:=rfl
@[simp] theorem iS (t:Tr) (ts:List Tr):sizeL (t::ts)=t.size+sizeL ts:=rfl
@[simp] theorem fa (x:ND) (ks:List Tr):(Tr.mk x ks).size=sizeL ks+1:=rfl
@[simp] theorem ng:∀(a b:List Tr),sizeL (a++b)=sizeL a+sizeL b
  |[],b=>by simp[sizeL]
  |t::a,b=>by rw[List.cons_append,sizeL,sizeL,ng a b];omega
def QY(L:SV):Prop:=(∃b n c,L=.slice b 0 n c)\/(∃b n c,L=.row b 0 n c b)\/L=.lit (.slice none 0 0)
def LenIs(L:SV)(n:Int):Prop:=SV.one L=true/\SV.same L L=true/\(∀h,gy Tryz.prog h 83 L=some (iV n,[]))/\QY L
def IdxAt(L:SV)(n:Nat)(q:Nat->SV):Prop:=∀i,i<n->bT Tryz.prog 83 L (.lit (.int .i64 (Int.ofNat i)))=some (q i)
inductive TreeAt (Γ:Glob) (Z:Hp):SV->Tr->Prop
 |mk {p:SV} {x:ND} {L:SV} {ks:List Tr} (q:Nat->SV):PtrTo Γ Z p (x.cells L)->LenIs L ks.length->IdxAt L ks.length q->(∀i t,ks[i]? =some t->TreeAt Γ Z (q i) t)->TreeAt Γ Z p ⟨x,ks⟩
def KidsOf(Γ:Glob)(Z:Hp)(L:SV)(ks:List Tr):Prop:=LenIs L ks.length/\∃q:Nat->SV,IdxAt L ks.length q/\∀i t,ks[i]? =some t->TreeAt Γ Z (q i) t
section
variable {Γ:Glob}{Z Z' h:Hp}{p L v:SV}{t:Tr}{ks ts:List Tr}{x:ND}{l m:List Asrt}{b:Nat}
theorem TreeAt.sub(z:Sub Z Z')(w:TreeAt Γ Z p t):TreeAt Γ Z' p t:=by
 induction w with
 |mk q h1 h2 h3 _ ih=>exact .mk q (vU z h1) h2 h3 ih
theorem KidsOf.sub(z:Sub Z Z')(w:KidsOf Γ Z L ks):KidsOf Γ Z' L ks:=⟨w.1,w.2.imp λ_ h=>⟨h.1,λi t ht=>(h.2 i t ht).sub z⟩⟩
theorem TreeAt.of(w:PtrTo Γ Z p (x.cells L))(hk:KidsOf Γ Z L ks):TreeAt Γ Z p ⟨x,ks⟩:=by
 obtain⟨h1,q,h2,h3⟩:=hk;exact .mk q w h1 h2 h3
theorem TreeAt.out(w:TreeAt Γ Z p ⟨x,ks⟩):∃L,PtrTo Γ Z p (x.cells L)/\KidsOf Γ Z L ks:=by
 cases w with
 |mk q h1 h2 h3 h4=>exact⟨_,h1,h2,q,h3,h4⟩
def br(Γ:Glob)(L:SV)(ks:List Tr):Asrt:=frA (λZ=>KidsOf Γ Z L ks) λz w=>w.sub z
def bB(Γ:Glob)(p:SV)(t:Tr):Asrt:=frA (λZ=>TreeAt Γ Z p t) λz w=>w.sub z
set_option maxRecDepth 20000 in
theorem gK:LenIs (.lit (.slice none 0 0)) 0:=⟨rfl,by simp[SV.same,dr],λ_=>rfl,.inr (.inr rfl)⟩
theorem CS(s:St Z l h):St Z (br Γ (.lit (.slice none 0 0)) []::l) h:=cX.2 ⟨⟨gK,λ_=>.lit .nilIface,λi hi=>absurd hi (Nat.not_lt_zero i),λi t ht=>by simp at ht⟩,s⟩
theorem cD(s:St Z l h):St Z (br Γ (oneS (.lit (.slice none 0 0))) []::l) h:=by
 rw[show oneS (.lit (.slice none 0 0))=.lit (.slice none 0 0)from cm rfl (by simp[SV.same,dr])];exact CS s
theorem bN(b o n c:Nat):oneS (.slice b o n c)=.slice b o n c:=cm rfl (by simp[SV.same])
theorem bP(b o:Nat):oneS (.ptr b o)=.ptr b o:=cm rfl (by simp[SV.same])
def em(e:ND×SV):List SV:=e.1.cells e.2
theorem eT(es:List (ND×SV)):(es.map em).flatten=es.flatMap em:=(List.flatMap_def ..).symm
theorem lH(es:List (ND×SV)):(es.flatMap em).length=es.length*22:=by
 rw[<-eT,el (size:=22),ao];intro y hy;obtain⟨e,_,rfl⟩:=List.mem_map.1 hy;rfl
theorem uC{es:List (ND×SV)}{i:Nat}{e:ND×SV}(hi:es[i]? =some e){cs:List SV}(hc:cs.take (es.length*22)=es.flatMap em):Ev.cut cs (i*22) 22=some (em e):=by
 have hall:∀y∈es.map em,y.length=22:=λy hy=>by
  obtain⟨e,_,rfl⟩:=List.mem_map.1 hy;rfl
 have:=zM (l:=es.map em) (size:=22) (cs:=cs) (x:=em e) (vs:=em e) (j:=i) (k:=0) (n:=22) hall (by rw[ao,hc,eT]) (by rw[aV,hi];rfl) (ii rfl rfl);exact this
theorem H0{i n:Nat}(h:i<n):ou (.lit (.int .i64 (Int.ofNat i))) n=some i:=by
 have hb:Nat.blt i n=true:=ai h;simp only[ou,hb,bf]
set_option maxRecDepth 20000 in
theorem oZ:tyU Tryz.prog 83=some (.slice 85)/\bI Tryz.prog 85=some 22:=⟨rfl,rfl⟩
theorem zip_fst{ts:List Tr}{es:List (ND×SV)}(hl:es.length=ts.length)(hn:∀(i:Nat) e t,es[i]? =some e->ts[i]? =some t->e.1=t.nd){i:Nat}{t:Tr}(ht:ts[i]? =some t):∃e,es[i]? =some e/\e.1=t.nd:=by
 have hi:=(List.getElem?_eq_some_iff.1 ht).1;have:i<es.length:=by omega
 exact⟨es[i],List.getElem?_eq_some_iff.2 ⟨this,rfl⟩,hn i _ t (List.getElem?_eq_some_iff.2 ⟨this,rfl⟩) ht⟩
def NodesOk(Γ:Glob)(Z:Hp)(es:List (ND×SV))(ts:List Tr):Prop:=es.length=ts.length/\∀(i:Nat) e t,es[i]? =some e->ts[i]? =some t->e.1=t.nd/\KidsOf Γ Z e.2 t.kids
theorem NodesOk.sub{es:List (ND×SV)}(z:Sub Z Z')(w:NodesOk Γ Z es ts):NodesOk Γ Z' es ts:=⟨w.1,λi e t h1 h2=>⟨(w.2 i e t h1 h2).1,(w.2 i e t h1 h2).2.sub z⟩⟩
theorem Nz{cs:List SV}{es:List (ND×SV)}{o:AObj}(hz:Z.objs.get b=some o)(ho:knownCells Z b=some cs)(hb:b<Z.next)(hc:cs.take (es.length*22)=es.flatMap em)(w:NodesOk Γ Z es ts)(hl:LenIs L ts.length)(hi:IdxAt L ts.length λi=>.ptr b (i*22)):KidsOf Γ Z L ts:=by
 refine⟨hl,_,hi,λi t ht=>?_⟩;obtain⟨e,h1,h2⟩:=zip_fst w.1 (λi e t h1 h2=>(w.2 i e t h1 h2).1) ht;obtain⟨h3,h4⟩:=w.2 i e t h1 ht;obtain⟨x,ks⟩:=t;have h3:e.1=x:=h3;subst h3;exact TreeAt.of (.inl ⟨b,i*22,rfl,hb,cs,ho,uC h1 hc⟩) h4
theorem St.freezeK{o:AObj}{cs:List SV}{es:List (ND×SV)}(hk:o=.cells cs 85\/∃k,o=.row cs 85 k b 22)(hc:cs.take (es.length*22)=es.flatMap em)(w:NodesOk Γ Z es ts)(hl:LenIs L ts.length)(hi:IdxAt L ts.length λi=>.ptr b (i*22))(s:St Z (own b o::l) h):∃Z',Sub Z Z'/\St Z' (br Γ L ts::l) h:=by
 have hlt:=(St.get (l:=[]) s).2;obtain⟨Z',z,hg,s'⟩:=s.freeze;have hsep:Sep ⟨Z'.objs,Nat.max Z'.next (b+1)⟩ l (λb=>Z'.objs.get b≠none) h:=ni (Z:=Z') (Z':=⟨Z'.objs,Nat.max Z'.next (b+1)⟩) ⟨Nat.le_max_left _ _,λ_ _ h=>h⟩ s'.sep;refine⟨⟨Z'.objs,Nat.max Z'.next (b+1)⟩,⟨Nat.le_trans z.1 (Nat.le_max_left _ _),z.2⟩,cX.2 ⟨?_,s'.frz,s'.zlt,hsep⟩⟩;refine Nz (o:=o) (cs:=cs) (Z:=⟨Z'.objs,Nat.max Z'.next (b+1)⟩) hg ?_ (aM (aq b) (Nat.le_max_right _ _)) hc (w.sub ⟨Nat.le_trans z.1 (Nat.le_max_left _ _),z.2⟩) hl hi;simp only[knownCells,hg];rcases hk with rfl|⟨k,rfl⟩<;>rfl
theorem jq(b n c:Nat):LenIs (.slice b 0 n c) n:=⟨rfl,by simp[SV.same],λh=>by simp only[gy,oZ.1];rfl,.inl ⟨b,n,c,rfl⟩⟩
theorem jv(b n c:Nat):IdxAt (.slice b 0 n c) n λi=>.ptr b (i*22):=λi hi=>by
 simp only[bT,oZ.1,oZ.2,H0 hi,aX]
theorem ov(b n c:Nat):LenIs (.row b 0 n c b) n:=⟨rfl,by simp[SV.same],λh=>by simp only[gy,oZ.1];rfl,.inr (.inl ⟨b,n,c,rfl⟩)⟩
theorem oB(b n c:Nat):IdxAt (.row b 0 n c b) n λi=>.ptr b (i*22):=λi hi=>by
 simp only[bT,oZ.1,oZ.2,H0 hi,aX]
theorem G8{x:ND}{L1:SV}{k1:List Tr}{c:List SV}(hc:c=x.cells L1)(s:St Z (own b (.cells c 85)::br Γ L1 k1::l) h):∃Z',Sub Z Z'/\∃(_:Unit),True/\St Z' (br Γ (.slice b 0 1 1) [⟨x,k1⟩]::l) h:=by
 subst hc;obtain⟨w1,s⟩:=cX.1 s.rot1;obtain⟨Z',z,s⟩:=s.freezeK (es:=[(x,L1)]) (ts:=[⟨x,k1⟩]) (.inl rfl) rfl ⟨rfl,λi e t h1 h2=>by
  match i with
  |0=>
   obtain rfl:(x,L1)=e:=by simpa using h1
   obtain rfl:Tr.mk x k1=t:=by simpa using h2
   exact⟨rfl,w1⟩
  |i+1=>simp at h1⟩ (jq b 1 1) (jv b 1 1)
 exact⟨Z',z,(),trivial,s⟩
def nlA(Γ:Glob)(v:SV)(ts:List Tr):Asrt:=exA λes:List (ND×SV)=>jx (dL 85 22 v (es.map em)) (frA (λZ=>NodesOk Γ Z es ts) λz w=>w.sub z)
theorem jK:St Z (nlA Γ v ts::l) h↔∃es,NodesOk Γ Z es ts/\St Z (dL 85 22 v (es.map em)::l) h:=by
 refine eL.trans ⟨λ⟨es,s⟩=>?_,λ⟨es,w,s⟩=>⟨es,?_⟩⟩
 .have:=cX.1 (cO.1 s).rot1;exact⟨es,this.1,this.2⟩
 .exact cO.2 (St.rot1 (cX.2 ⟨w,s⟩))
theorem My(s:St Z l h):St Z (nlA Γ (.lit (.slice none 0 0)) []::l) h:=jK.2 ⟨[],⟨rfl,λi e t h=>by simp at h⟩,kZ.2 s⟩
theorem Bz(s:St Z l h):St Z (nlA Γ (oneS (.lit (.slice none 0 0))) []::l) h:=by
 rw[show oneS (.lit (.slice none 0 0))=.lit (.slice none 0 0)from cm rfl (by simp[SV.same,dr])];exact My s
set_option maxRecDepth 20000 in
theorem L4{t:TypeId}{e':TypeId}(ht:tyU Tryz.prog t=some (.slice e'))(hnil:∀h,gy Tryz.prog h t (.lit (.slice none 0 0))=some (iV 0,[]))(s:St Z (nlA Γ v ts::l) h):True/\∃fs,gy Tryz.prog h t v=some (iV (ts.length:Int),fs):=by
 obtain⟨es,w,s⟩:=jK.1 s;have:=zn ht hnil s;rw[ao,w.1]at this;exact⟨trivial,[],this⟩
set_option maxRecDepth 20000 in
theorem Cc:gC Tryz.prog 85 22:=by
 have h:(Tryz.prog.info? 85).isSome=true:=bm;obtain⟨i,hi⟩:=Option.isSome_iff_exists.1 h;have h2:((Tryz.prog.info? 85).bind (·.zero)).isSome=true:=bm;rw[hi]at h2;obtain⟨z,hz⟩:=Option.isSome_iff_exists.1 h2;have h3:((Tryz.prog.info? 85).map λi=>Nat.beq i.size 22&&(Nat.ble i.bytes 1000&&(i.zero.map λz=>Nat.beq (SV.cells (.lit z)).length 22).getD false))=some true:=bm;have hz':i.zero=some z:=hz;rw[hi,af,hz',af,Option.getD_some,a7,a8,a8]at h3;exact⟨i,z,hi,hz',aj h3.1,aG h3.2.1,aj h3.2.2⟩
theorem JA{st:TypeId}{nb:Nat}{x:ND}{L1:SV}{k1:List Tr}{c:List SV}(hst:tyU Tryz.prog st=some (.slice 85))(s:St Z (nlA Γ v ts::own nb (.cells c 85)::br Γ L1 k1::l) h)(hx:c=x.cells L1)(hL:SV.one L1=true)(hn:ts.length<=1900000):
 ∃v' H,val (cQ Tryz.prog Γ h [st,st] v (.slice nb 0 1 1))=some [(oneS v',H)]/\h.next<=H.next/\True/\St Z (nlA Γ (oneS v') (ts++[⟨x,k1⟩])::l) H:=by
 have hone:c.all SV.one=true:=by
  rw[hx];simp only[ND.cells,al,List.all_nil,hL,Bool.and_true];rfl
 obtain⟨es,w,s⟩:=jK.1 s;obtain⟨w1,s⟩:=cX.1 s.rot2;obtain⟨v',H,h1,h2,h3⟩:=s6 (Γ:=Γ) hst Cc (by decide) s (by rw[hx];rfl) hone (by rw[ao,w.1];exact hn);refine⟨v',H,by rw[h1];rfl,h2,trivial,jK.2 ⟨es++[(x,L1)],⟨by simp[w.1],λi e t e1 e2=>?_⟩,?_⟩⟩
 .by_cases hi:i<es.length
  .rw[aU hi]at e1;rw[aU (by rw[<-w.1];exact hi)]at e2;exact w.2 i e t e1 e2
  .have hl:=(List.getElem?_eq_some_iff.1 e1).1;rw[ac,List.length_singleton]at hl;have hi:i=es.length:=by omega
   subst hi;rw[List.getElem?_append_right (av _),Nat.sub_self]at e1;rw[w.1,List.getElem?_append_right (av _),Nat.sub_self]at e2;obtain rfl:(x,L1)=e:=by simpa using e1
   obtain rfl:Tr.mk x k1=t:=by simpa using e2
   exact⟨rfl,w1⟩
 .rw[aH];rw[hx]at h3;exact h3
theorem sW(s:St Z (nlA Γ v ts::l) h):∃Z',Sub Z Z'/\∃(_:Unit),True/\St Z' (br Γ v ts::l) h:=by
 obtain⟨es,w,s⟩:=jK.1 s;rcases(dR s).2 with⟨rfl,hn,s1⟩|⟨b,o,hb,hlt,⟨cs,⟨c,rfl,_,_,ho,_⟩|⟨k,rfl,_,ho,_⟩,hc⟩,s1⟩
 .have:ts=[]:=by
   have:=w.1;rw[List.map_eq_nil_iff.1 hn]at this;exact List.length_eq_zero_iff.1 this.symm
  subst this;exact⟨Z,Sub.refl Z,(),trivial,CS s1⟩
 .obtain rfl:=ab ho;rw[ao]at hc⊢;obtain⟨Z',z,s⟩:=s1.freezeK (es:=es) (L:=.slice b 0 es.length c) (.inl rfl) (by rw[hc,eT]) w (by rw[<-w.1];exact jq b _ c) (by rw[<-w.1];exact jv b _ c);exact⟨Z',z,(),trivial,s⟩
 .obtain rfl:=ab ho;rw[ao]at hc⊢;obtain⟨Z',z,s⟩:=s1.freezeK (es:=es) (L:=.row b 0 es.length k b) (.inr ⟨k,rfl⟩) (by rw[hc,eT]) w (by rw[<-w.1];exact ov b _ k) (by rw[<-w.1];exact oB b _ k);exact⟨Z',z,(),trivial,s⟩
end
def cp(B:Nat)(L:bn):Asrt:=exA λv:SV=>jx (exA λp:SV=>jx (puA ((p=.lit (.pointer none)\/p=.ptr B 0)/\(L=[]->v=.lit (.slice none 0 0)))) (own B (.cells [p,v] 58))) (dL 5 1 v (L.map byE))
theorem vZ{Z h:Hp}{B:Nat}{l:List Asrt}(s:St Z (own B (.cells [.lit (.pointer none),.lit (.slice none 0 0)] 58)::l) h):St Z (cp B []::l) h:=
 eL.2 ⟨.lit (.slice none 0 0),cO.2 (eL.2 ⟨.lit (.pointer none),cO.2 (i1.2 ⟨⟨.inl rfl,λ_=>rfl⟩,(kZ.2 s).rot1⟩)⟩)⟩
def tK(s:bn):SV:=.lit (.string ⟨⟨s⟩⟩)
theorem Lm(a b:ByteArray):pureRun Tryz.prog (Op.equal 9 (.string a) (.string b))=some (a==b):=bm
theorem Lh(e:Bool)(a:ByteArray):pureRun Tryz.prog (Instr.checkKey e 10000 9 (.string a))=some ():=bm
theorem KC(s t:bn):((⟨⟨s⟩⟩:ByteArray)==⟨⟨t⟩⟩)=decide (s=t):=by
 rw[show((⟨⟨s⟩⟩:ByteArray)==⟨⟨t⟩⟩)=((⟨s⟩:Array UInt8)==⟨t⟩)from rfl,Bool.eq_iff_iff,beq_iff_eq,ba];constructor
 .intro h;exact congrArg Array.toList h
 .intro h;rw[h]
theorem gO:KeyOk Tryz.prog 9 tK where
 lit a:=⟨.string ⟨⟨a⟩⟩,rfl,λe=>Lh e _,by simp[Instr.sameBits,KC]⟩
 eq a b v w hv hw:=by
  obtain rfl:Value.string ⟨⟨a⟩⟩=v:=ab hv;obtain rfl:Value.string ⟨⟨b⟩⟩=w:=ab hw;rw[Lm,KC]
section
variable {Z h:Hp}{l:List Asrt}{M:Nat}{f:Int->Nat}{g:Int->List (bn×Bool)}
end
abbrev I6(x:Int):Prop:=(-9223372036854775808<=x)/\(x<9223372036854775808)
abbrev xI(e:X):X:=.and (.le (.z (-9223372036854775808)) e) (.lt e (.z 9223372036854775808))
abbrev RC(Γ:Glob)(Z0:Hp)(f:Nat)(args:List SV)(h:Hp)(Q:Hp->SV->Hp->Prop):Prop:=Runs Tryz.prog Γ (.call f args h) λoq=>∃Z',Sub Z0 Z'/\Q Z' oq.v oq.hp
abbrev vI(n:Nat):XV:=I (.v n)
abbrev vT(n:Nat):XV:=.txt (.tv n)
abbrev vB(n:Nat):XV:=.bool (.bv n)
abbrev nX(i t b:Nat)(r:XV):List XV:=[vI i,vI (i+1),vI (i+2),vI (i+3),vT t,vB b,vI (i+4),vT (t+1),vI (i+5),vI (i+6),vI (i+7),vI (i+8),vB (b+1),vB (b+2),vI (i+9),vI (i+10),vI (i+11),vI (i+12),vB (b+3),vB (b+4),vI (i+13),r]
abbrev ndL(x:ND)(r:SV):List SV:=[iV x.k,iV x.v0,iV x.v1,iV x.v2,sV x.v3,bV x.v4,iV x.v5,sV x.name,iV x.a0,iV x.a1,iV x.a2,iV x.a3,bV x.a4,bV x.a5,iV x.b0,iV x.b1,iV x.b2,iV x.b3,bV x.b4,bV x.b5,iV x.rows,r]
section
variable {C:Cx}{c d:Cnt}{ρ:Va}{Z:Hp}{t e2:Ct}{b:X}{f:Nat}{args:List XV}{k nm:List MI}{nv:XV}
theorem bo(p:Prop)(hp:b.prop ρ=p)(h:p->den C t c ρ Z)(k:¬p->den C e2 c ρ Z):den C (.fork b t e2) c ρ Z:=by
 subst hp;exact⟨h,k⟩
theorem dsU(e:Vals)(h:∀l h,St Z (cR ρ k++l) h->St Z (cR (ρ.ext c e) nm++l) h)(kk:den C t d (ρ.ext c e) Z):den C (.swap k nm d t) c ρ Z:=
 bQ (α:=Unit) (λ_=>e) (λ_=>True) (λl h' hs=>⟨(),trivial,h l h' hs⟩) λ_ _=>kk
theorem dcU(e:Vals)(h:∀l h,St Z (cR ρ k++l) h->Runs C.P C.Γ (.call f (svL ρ args) h) λo=>∃Z',Sub Z Z'/\True/\o.v=nv.sv (ρ.ext c e)/\St Z' (cR (ρ.ext c e) nm++l) o.hp)(kk:∀Z,den C t d (ρ.ext c e) Z):den C (.call f args k nv nm d t) c ρ Z:=
 bS (α:=Unit) (λ_=>e) (λ_=>True) (λl h' hs=>(h l h' hs).mono λ_ ⟨Z1,z1,h1⟩=>⟨Z1,z1,(),h1⟩) λZ _ _=>kk Z
theorem dc2{α1 α2:Type}(e:α1->α2->Vals)(q:α1->α2->Prop)(h:∀l h,St Z (cR ρ k++l) h->Runs C.P C.Γ (.call f (svL ρ args) h) λo=>∃Z',Sub Z Z'/\∃x1 x2,q x1 x2/\o.v=nv.sv (ρ.ext c (e x1 x2))/\St Z' (cR (ρ.ext c (e x1 x2)) nm++l) o.hp)(kk:∀Z x1 x2,q x1 x2->den C t d (ρ.ext c (e x1 x2)) Z):den C (.call f args k nv nm d t) c ρ Z:=
 bS (λp:α1×α2=>e p.1 p.2) (λp=>q p.1 p.2) (λl h' hs=>(h l h' hs).mono λ_ ⟨Z1,z1,x1,x2,hq⟩=>⟨Z1,z1,(x1,x2),hq⟩) λZ p hq=>kk Z p.1 p.2 hq
theorem dc3{α1 α2 α3:Type}(e:α1->α2->α3->Vals)(q:α1->α2->α3->Prop)(h:∀l h,St Z (cR ρ k++l) h->Runs C.P C.Γ (.call f (svL ρ args) h) λo=>∃Z',Sub Z Z'/\∃x1 x2 x3,q x1 x2 x3/\o.v=nv.sv (ρ.ext c (e x1 x2 x3))/\St Z' (cR (ρ.ext c (e x1 x2 x3)) nm++l) o.hp)(kk:∀Z x1 x2 x3,q x1 x2 x3->den C t d (ρ.ext c (e x1 x2 x3)) Z):den C (.call f args k nv nm d t) c ρ Z:=
 bS (λp:α1×α2×α3=>e p.1 p.2.1 p.2.2) (λp=>q p.1 p.2.1 p.2.2) (λl h' hs=>(h l h' hs).mono λ_ ⟨Z1,z1,x1,x2,x3,hq⟩=>⟨Z1,z1,(x1,x2,x3),hq⟩) λZ p hq=>kk Z p.1 p.2.1 p.2.2 hq
theorem dc4{α1 α2 α3 α4:Type}(e:α1->α2->α3->α4->Vals)(q:α1->α2->α3->α4->Prop)(h:∀l h,St Z (cR ρ k++l) h->Runs C.P C.Γ (.call f (svL ρ args) h) λo=>∃Z',Sub Z Z'/\∃x1 x2 x3 x4,q x1 x2 x3 x4/\o.v=nv.sv (ρ.ext c (e x1 x2 x3 x4))/\St Z' (cR (ρ.ext c (e x1 x2 x3 x4)) nm++l) o.hp)(kk:∀Z x1 x2 x3 x4,q x1 x2 x3 x4->den C t d (ρ.ext c (e x1 x2 x3 x4)) Z):den C (.call f args k nv nm d t) c ρ Z:=
 bS (λp:α1×α2×α3×α4=>e p.1 p.2.1 p.2.2.1 p.2.2.2) (λp=>q p.1 p.2.1 p.2.2.1 p.2.2.2) (λl h' hs=>(h l h' hs).mono λ_ ⟨Z1,z1,x1,x2,x3,x4,hq⟩=>⟨Z1,z1,(x1,x2,x3,x4),hq⟩) λZ p hq=>kk Z p.1 p.2.1 p.2.2.1 p.2.2.2 hq
theorem dc5{α1 α2 α3 α4 α5:Type}(e:α1->α2->α3->α4->α5->Vals)(q:α1->α2->α3->α4->α5->Prop)(h:∀l h,St Z (cR ρ k++l) h->Runs C.P C.Γ (.call f (svL ρ args) h) λo=>∃Z',Sub Z Z'/\∃x1 x2 x3 x4 x5,q x1 x2 x3 x4 x5/\o.v=nv.sv (ρ.ext c (e x1 x2 x3 x4 x5))/\St Z' (cR (ρ.ext c (e x1 x2 x3 x4 x5)) nm++l) o.hp)(kk:∀Z x1 x2 x3 x4 x5,q x1 x2 x3 x4 x5->den C t d (ρ.ext c (e x1 x2 x3 x4 x5)) Z):den C (.call f args k nv nm d t) c ρ Z:=
 bS (λp:α1×α2×α3×α4×α5=>e p.1 p.2.1 p.2.2.1 p.2.2.2.1 p.2.2.2.2) (λp=>q p.1 p.2.1 p.2.2.1 p.2.2.2.1 p.2.2.2.2) (λl h' hs=>(h l h' hs).mono λ_ ⟨Z1,z1,x1,x2,x3,x4,x5,hq⟩=>⟨Z1,z1,(x1,x2,x3,x4,x5),hq⟩) λZ p hq=>kk Z p.1 p.2.1 p.2.2.1 p.2.2.2.1 p.2.2.2.2 hq
theorem dc6{α1 α2 α3 α4 α5 α6:Type}(e:α1->α2->α3->α4->α5->α6->Vals)(q:α1->α2->α3->α4->α5->α6->Prop)(h:∀l h,St Z (cR ρ k++l) h->Runs C.P C.Γ (.call f (svL ρ args) h) λo=>∃Z',Sub Z Z'/\∃x1 x2 x3 x4 x5 x6,q x1 x2 x3 x4 x5 x6/\o.v=nv.sv (ρ.ext c (e x1 x2 x3 x4 x5 x6))/\St Z' (cR (ρ.ext c (e x1 x2 x3 x4 x5 x6)) nm++l) o.hp)(kk:∀Z x1 x2 x3 x4 x5 x6,q x1 x2 x3 x4 x5 x6->den C t d (ρ.ext c (e x1 x2 x3 x4 x5 x6)) Z):den C (.call f args k nv nm d t) c ρ Z:=
 bS (λp:α1×α2×α3×α4×α5×α6=>e p.1 p.2.1 p.2.2.1 p.2.2.2.1 p.2.2.2.2.1 p.2.2.2.2.2) (λp=>q p.1 p.2.1 p.2.2.1 p.2.2.2.1 p.2.2.2.2.1 p.2.2.2.2.2) (λl h' hs=>(h l h' hs).mono λ_ ⟨Z1,z1,x1,x2,x3,x4,x5,x6,hq⟩=>⟨Z1,z1,(x1,x2,x3,x4,x5,x6),hq⟩) λZ p hq=>kk Z p.1 p.2.1 p.2.2.1 p.2.2.2.1 p.2.2.2.2.1 p.2.2.2.2.2 hq
theorem dc8{α1 α2 α3 α4 α5 α6 α7 α8:Type}(e:α1->α2->α3->α4->α5->α6->α7->α8->Vals)(q:α1->α2->α3->α4->α5->α6->α7->α8->Prop)(h:∀l h,St Z (cR ρ k++l) h->Runs C.P C.Γ (.call f (svL ρ args) h) λo=>∃Z',Sub Z Z'/\∃x1 x2 x3 x4 x5 x6 x7 x8,q x1 x2 x3 x4 x5 x6 x7 x8/\o.v=nv.sv (ρ.ext c (e x1 x2 x3 x4 x5 x6 x7 x8))/\St Z' (cR (ρ.ext c (e x1 x2 x3 x4 x5 x6 x7 x8)) nm++l) o.hp)(kk:∀Z x1 x2 x3 x4 x5 x6 x7 x8,q x1 x2 x3 x4 x5 x6 x7 x8->den C t d (ρ.ext c (e x1 x2 x3 x4 x5 x6 x7 x8)) Z):den C (.call f args k nv nm d t) c ρ Z:=
 bS (λp:α1×α2×α3×α4×α5×α6×α7×α8=>e p.1 p.2.1 p.2.2.1 p.2.2.2.1 p.2.2.2.2.1 p.2.2.2.2.2.1 p.2.2.2.2.2.2.1 p.2.2.2.2.2.2.2) (λp=>q p.1 p.2.1 p.2.2.1 p.2.2.2.1 p.2.2.2.2.1 p.2.2.2.2.2.1 p.2.2.2.2.2.2.1 p.2.2.2.2.2.2.2) (λl h' hs=>(h l h' hs).mono λ_ ⟨Z1,z1,x1,x2,x3,x4,x5,x6,x7,x8,hq⟩=>⟨Z1,z1,(x1,x2,x3,x4,x5,x6,x7,x8),hq⟩) λZ p hq=>kk Z p.1 p.2.1 p.2.2.1 p.2.2.2.1 p.2.2.2.2.1 p.2.2.2.2.2.1 p.2.2.2.2.2.2.1 p.2.2.2.2.2.2.2 hq
theorem Pe{α1 α2 α3 α4 α5 α6 α7 α8 α9 α10 α11:Type}(e:α1->α2->α3->α4->α5->α6->α7->α8->α9->α10->α11->Vals)(q:α1->α2->α3->α4->α5->α6->α7->α8->α9->α10->α11->Prop)(h:∀l h,St Z (cR ρ k++l) h->Runs C.P C.Γ (.call f (svL ρ args) h) λo=>∃Z',Sub Z Z'/\∃x1 x2 x3 x4 x5 x6 x7 x8 x9 x10 x11,q x1 x2 x3 x4 x5 x6 x7 x8 x9 x10 x11/\o.v=nv.sv (ρ.ext c (e x1 x2 x3 x4 x5 x6 x7 x8 x9 x10 x11))/\St Z' (cR (ρ.ext c (e x1 x2 x3 x4 x5 x6 x7 x8 x9 x10 x11)) nm++l) o.hp)(kk:∀Z x1 x2 x3 x4 x5 x6 x7 x8 x9 x10 x11,q x1 x2 x3 x4 x5 x6 x7 x8 x9 x10 x11->den C t d (ρ.ext c (e x1 x2 x3 x4 x5 x6 x7 x8 x9 x10 x11)) Z):den C (.call f args k nv nm d t) c ρ Z:=
 bS (λp:α1×α2×α3×α4×α5×α6×α7×α8×α9×α10×α11=>e p.1 p.2.1 p.2.2.1 p.2.2.2.1 p.2.2.2.2.1 p.2.2.2.2.2.1 p.2.2.2.2.2.2.1 p.2.2.2.2.2.2.2.1 p.2.2.2.2.2.2.2.2.1 p.2.2.2.2.2.2.2.2.2.1 p.2.2.2.2.2.2.2.2.2.2) (λp=>q p.1 p.2.1 p.2.2.1 p.2.2.2.1 p.2.2.2.2.1 p.2.2.2.2.2.1 p.2.2.2.2.2.2.1 p.2.2.2.2.2.2.2.1 p.2.2.2.2.2.2.2.2.1 p.2.2.2.2.2.2.2.2.2.1 p.2.2.2.2.2.2.2.2.2.2) (λl h' hs=>(h l h' hs).mono λ_ ⟨Z1,z1,x1,x2,x3,x4,x5,x6,x7,x8,x9,x10,x11,hq⟩=>⟨Z1,z1,(x1,x2,x3,x4,x5,x6,x7,x8,x9,x10,x11),hq⟩) λZ p hq=>kk Z p.1 p.2.1 p.2.2.1 p.2.2.2.1 p.2.2.2.2.1 p.2.2.2.2.2.1 p.2.2.2.2.2.2.1 p.2.2.2.2.2.2.2.1 p.2.2.2.2.2.2.2.2.1 p.2.2.2.2.2.2.2.2.2.1 p.2.2.2.2.2.2.2.2.2.2 hq
end
theorem V1{P:Prop}(h:P:=by first|(simp at*;omega)|(simp_all;done)|(simp_all;omega)):P:=h
theorem bL{Γ:Glob}[Mute Γ]{f:FuncId}{Z h:Hp}{l:List Asrt}{Q:Hp->SV->Hp->Prop}(fn:Func)(hf:Tryz.prog.funcs[f]? =some fn)(args:List XV)(mem:List MI)(c:Cnt)(ρ:Va)(t:Ct)(hs:St Z (cR ρ mem++l) h)(hd:den (fnC Tryz.prog Γ fn args.length [] (d4 Z::l) (dz Z Q)) t c ρ Z)(hb:fn.body.isSome=true:=by kernel_rfl)(hq:chk Tryz.prog (some fn) (Nat.max fn.ntmps args.length) 100000 (.run (fg fn)) [] (sy args mem c) t=true:=by kernel_rfl)(hm:theMem f (svL ρ args) h=none:=by rfl):RC Γ Z f (svL ρ args) h Q:=
 rZ (Q:=Q) fn hf hb args mem c ρ t 100000 hq hs hm hd
theorem drT{C:Cx}{c d:Cnt}{ρ:Va}{Z:Hp}{t:Ct}{key:RK}{k:List MI}{nv:XV}(e:Vals)(h:∀l h,St Z (cR ρ k++l) h->True/\∃fs,key.says C.P C.Γ ρ h (nv.sv (ρ.ext c e),fs))(kk:den C t d (ρ.ext c e) Z):den C (.row key k nv d t) c ρ Z:=dD e True h λ_=>kk
abbrev mt:Value:=.slice none 0 0
abbrev Fd:XV:=I (.z 0)
abbrev Tz:XV:=I (.z 6)
abbrev TA:XV:=.bool (.bl false)
abbrev TB:XV:=.bool (.bl true)
abbrev TC(s:bn):ND:=⟨0,0,0,0,[],false,0,s,0,0,0,0,false,false,0,0,0,0,false,false,0⟩
abbrev TD(x:ND)(r:SV):Vals:={i:=[x.k,x.v0,x.v1,x.v2,x.v5,x.a0,x.a1,x.a2,x.a3,x.b0,x.b1,x.b2,x.b3,x.rows],t:=[x.v3,x.name],b:=[x.v4,x.a4,x.a5,x.b4,x.b5],r:=[r]}
abbrev TE(x:Int):Prop:= -9223372036854775808<=x/\x<9223372036854775808
abbrev TF(x:Int)(p:Prop):Prop:= -9223372036854775808<=x/\x<9223372036854775808/\p
abbrev TG:=List Asrt->Hp->SV->Hp->Prop
theorem TH{P:Prop}(h:P:=by first|trivial|omega|(and_intros<;>intros<;>and_intros<;>first|trivial|omega|assumption|exact V1)):P:=h
theorem TI{P:Prop}(h:P:=by first|exact hs|(have e:=kn0 (by assumption);subst e;exact hs)):P:=h
theorem TJ{P:Prop}(h:P:=by first|omega|(and_intros<;>intros<;>and_intros<;>first|omega|assumption|exact V1)):P:=h
theorem TK{P:Prop}(h:P:=by first|exact vN _ _|exact wa hi cd1 cd2|omega|(have h1:=hi.1;have h2:=hi.2.1;omega)):P:=h
theorem TL{P:Prop}(h:P:=by first|exact .inl cd1|exact .inr cd2):P:=h
theorem TM{P:Prop}(h:P:=by first|omega|exact Int.le_trans (xA _ _) bj):P:=h
theorem TN{P:Prop}(h:P:=by first|rfl|(show(bV false:SV)=_;clear hs;simp[dl, *];done)|(show(bV false:SV)=_;clear hs;simp_all[dl];done)):P:=h
theorem TP{P:Prop}(h:P:=by first|exact hs|(simp only[bN,bP];exact hs)):P:=h
abbrev TQ:List XV:=(nX 0 0 0 (.raw 0))
theorem TR{P:Prop}(h:P:=by first|omega|(have w1:=cC a bj;have w2:=cC n bj;simp only[ac,au,aw];omega)|omega|(and_intros<;>intros<;>and_intros<;>first|omega|assumption|exact V1)):P:=h
theorem TS{P:Prop}(h:P:=by first|rfl|(show(.tuple []:SV)=_;simp_all)):P:=h
theorem TT{P:Prop}(h:P:=by first|rfl|(show(iV 0:SV)=_;simp_all)):P:=h
abbrev TU:List XV:=[Fd,Fd,Fd,Fd,.txt (.tl []),TA,Fd,.txt (.tl []),Fd,Fd,Fd,Fd,TA,TA,Fd,Fd,Fd,Fd,TA,TA,Fd,.lit mt]
abbrev TV:List XV:=(nX 0 1 0 (.raw 0))
abbrev TW:List XV:=[vI 0,vI 1,vI 2,vI 3,vT 0,vB 0,vI 4,vI 5,vI 6,vI 7,vI 8,vT 1,vB 1,vI 9,vT 2,vI 10,vI 11,vI 12,vI 13,vB 2,vB 3,vI 14,vI 15,vI 16,vI 17,vB 4,vB 5,vI 18,.raw 0]
theorem TX{P:Prop}(h:P:=by first|rfl|first|exact byE_wr _|exact mu bj bj):P:=h
theorem TY{P:Prop}(h:P:=by first|rfl|(show(.ptr bk0 0:SV)=_;simp_all)):P:=h
theorem TZ{P:Prop}(h:P:=by first|rfl|(show(iV 5:SV)=_;simp_all)):P:=h
theorem T0{P:Prop}(h:P:=by first|rfl|(show(iV 6:SV)=_;simp_all)):P:=h
abbrev T1:List XV:=[vI 4,vI 5,vI 6,vI 7,vT 0,vB 0,vI 8,vI 9,vI 10,vI 11,vI 12,vT 1,vB 1,vI 13,vT 2,vI 14,vI 15,vI 16,vI 17,vB 2,vB 3,vI 18,vI 19,vI 20,vI 21,vB 4,vB 5,vI 22,.raw 0]
abbrev T2:List (Nat×XV):=[(0,.yield 0),(1,.ptr 1 0),(14,.raw 1),(15,vI 1),(16,vI 2)]
abbrev T3:List (Nat×XV):=[(0,.yield 0),(1,.ptr 1 0),(14,.raw 0),(15,vI 0),(16,Fd)]
theorem NE(a b:Int):one ((pureRun Tryz.prog (Builtin.max_ #[3,3] 0 #[.int .i64 a,.int .i64 b])).map .lit)=some (iV (max a b),[]):=by
 have h:pureRun Tryz.prog (Builtin.max_ #[3,3] 0 #[.int .i64 a,.int .i64 b])=some (.int .i64 (if b>a then b else a)):=bm;rw[h,show(if b>a then b else a)=max a b by split<;>omega];rfl
instance:Inhabited ND:=⟨⟨0,0,0,0,[],false,0,[],0,0,0,0,false,false,0,0,0,0,false,false,0⟩⟩
instance:Inhabited Tr:=⟨.mk default []⟩
noncomputable def bR(L:SV)(i:Int):SV:=(bT Tryz.prog 83 L (iV i)).getD (.lit .nilIface)
theorem m9{ks:List Tr}{t:Tr}:∀{i:Nat},ks[i]? =some t->t.size<=sizeL ks:=by
 induction ks with
 |nil=>intro i h;simp at h
 |cons a l ih=>
  intro i h
  match i with
  |0=>
   obtain rfl:a=t:=by simpa using h
   simp[sizeL]
  |i+1=>
   have:=ih (i:=i) (by simpa using h);simp only[sizeL];omega
theorem gt:∀ks:List Tr,ks.length<=sizeL ks
 |[]=>av _
 |t::l=>by
  have:=gt l;cases t;simp only[au,sizeL,fa];omega
theorem size_eq(t:Tr):t.size=sizeL t.kids+1:=by cases t;rfl
theorem EP(t:Tr):Tr.mk t.nd t.kids=t:=by cases t;rfl
theorem dG{α:Type}[Inhabited α]{L:List α}{i:Int}(h0:0<=i)(h1:i<L.length):L[i.toNat]? =some (lget L i):=by
 have hi:i.toNat<L.length:=by omega
 simp only[lget,aB hi,Option.getD_some]
theorem nQ{ks:List Tr}{i:Int}(h0:0<=i)(h1:i<ks.length):(sizeL (lget ks i).kids:Int)+1<=(sizeL ks:Int):=by
 have:=m9 (dG h0 h1);rw[size_eq]at this;omega
section
variable {Γ:Glob}{Z h:Hp}{L p:SV}{ks:List Tr}{t:Tr}{m:List Asrt}
theorem tM{cs:List SV}(w:PtrTo Γ Z p cs):SV.one p=true/\SV.same p p=true:=by
 rcases w with⟨b,o,rfl,_⟩|⟨g,o,rfl,_⟩
 .exact⟨rfl,by simp[SV.same]⟩
 .exact⟨rfl,by simp[SV.same,dr]⟩
theorem yh(w:TreeAt Γ Z p t):oneS p=p:=by
 cases w with
 |mk q h1 _ _ _=>exact cm (tM h1).1 (tM h1).2
theorem wZ(w:KidsOf Γ Z L ks):oneS L=L:=cm w.1.1 w.1.2.1
theorem dc(w:TreeAt Γ Z p t):∃L,PtrTo Γ Z p (t.nd.cells (oneS L))/\KidsOf Γ Z (oneS L) t.kids:=by
 obtain⟨x,ks⟩:=t;obtain⟨L,h1,h2⟩:=w.out;refine⟨L,?_,?_⟩
 .rw[wZ h2];exact h1
 .rw[wZ h2];exact h2
theorem dN(s:St Z (br Γ L ks::m) h):(ks.length:Int)<=(sizeL ks:Int)/\∃fs,gy Tryz.prog h 83 L=some (iV (ks.length:Int),fs):=⟨by exact_mod_cast gt ks,[],(cX.1 s).1.1.2.2.1 h⟩
theorem fC{i:Int}(h0:0<=i)(h1:i<ks.length)(s:St Z (br Γ L ks::m) h):(TreeAt Γ Z (oneS (bR L i)) (lget ks i)/\(sizeL (lget ks i).kids:Int)+1<=(sizeL ks:Int))/\∃fs,one (bT Tryz.prog 83 L (iV i))=some (oneS (bR L i),fs):=by
 obtain⟨_,q,hq,ht⟩:=(cX.1 s).1;obtain⟨n,rfl⟩:=Int.eq_ofNat_of_zero_le h0;have hn:n<ks.length:=by omega
 have e:=hq n hn;have e2:bR L (n:Int)=q n:=by
  show(bT Tryz.prog 83 L (.lit (.int .i64 (Int.ofNat n)))).getD _=_;rw[e];rfl
 have w:=ht n _ (dG h0 h1);rw[e2,yh w];refine⟨⟨w,nQ h0 h1⟩,[],?_⟩;show one (bT Tryz.prog 83 L (.lit (.int .i64 (Int.ofNat n))))=_;rw[e];rfl
theorem eE(w:TreeAt Γ Z p t)(s:St Z m h):St Z (bB Γ p t::m) h:=cX.2 ⟨w,s⟩
theorem co(w:KidsOf Γ Z L ks)(s:St Z m h):St Z (br Γ L ks::m) h:=cX.2 ⟨w,s⟩
theorem cN(s:St Z (bB Γ p t::m) h):TreeAt Γ Z p t/\St Z (bB Γ p t::m) h:=⟨(cX.1 s).1,s⟩
theorem fk{C:Cx}{c d:Cnt}{ρ:Va}{i:Nat}{cs:List XV}{t:Ct}(e:Vals)(w:PtrTo C.Γ Z ((ρ.ext c e).r i) (svL (ρ.ext c e) cs))(k:den C t d (ρ.ext c e) Z):den C (.win i cs d t) c ρ Z:=⟨e,w,k⟩
theorem Gf{b:Nat}{x:ND}{c:List SV}(hc:c=x.cells L)(s:St Z (own b (.cells c 85)::br Γ L ks::m) h):∃Z',Sub Z Z'/\∃(_:Unit),True/\St Z' (bB Γ (.ptr b 0) ⟨x,ks⟩::m) h:=by
 subst hc;have hlt:=(St.get (l:=[]) s).2;obtain⟨w,s⟩:=cX.1 s.rot1;obtain⟨Z',z,hg,s'⟩:=s.freeze;have hsep:Sep ⟨Z'.objs,Nat.max Z'.next (b+1)⟩ m (λb=>Z'.objs.get b≠none) h:=ni (Z:=Z') (Z':=⟨Z'.objs,Nat.max Z'.next (b+1)⟩) ⟨Nat.le_max_left _ _,λ_ _ h=>h⟩ s'.sep;have z2:Sub Z ⟨Z'.objs,Nat.max Z'.next (b+1)⟩:=⟨Nat.le_trans z.1 (Nat.le_max_left _ _),z.2⟩;refine⟨⟨Z'.objs,Nat.max Z'.next (b+1)⟩,z2,(),trivial,cX.2 ⟨?_,s'.frz,s'.zlt,hsep⟩⟩;refine TreeAt.of (.inl ⟨b,0,rfl,aM (aq b) (Nat.le_max_right _ _),x.cells L,?_,ii (by rw[List.drop_zero];rfl) rfl⟩) (w.sub z2);simp only[knownCells,hg]
theorem om{b:Nat}{x:ND}{c:List SV}(hc:c=x.cells L)(s:St Z (own b (.cells c 85)::br Γ L ks::m) h):∃Z',Sub Z Z'/\∃(_:Unit),True/\St Z' (bB Γ (.ptr b 0) ⟨x,ks⟩::br Γ L ks::m) h:=by
 obtain⟨w,s'⟩:=cX.1 s.rot1;exact Gf (m:=br Γ L ks::m) hc (co w (co w s')).rot2
theorem wU(s:St Z (br Γ L ([]:List Tr)::m) h):True/\∃fs,gy Tryz.prog h 83 L=some (iV 0,fs):=⟨trivial,(dN s).2⟩
theorem GZ{ks':List Tr}(e:ks=ks')(s:St Z (br Γ L ks::m) h):St Z (br Γ L ks'::br Γ L ks::m) h:=by
 subst e;exact co (cX.1 s).1 s
end
section
variable {P:Program}{Γ:Glob}{Z h:Hp}{m:List Asrt}{e:TypeId}{size:Nat}{v w:SV}{l k:List (List SV)}
theorem HC(s:St Z (dL e size w k::m) h):de Γ h size w=some (k.flatten,k.length):=by
 obtain⟨hall,hh⟩:=dR s;have hfl:=el λy hy=>(hall y hy).1;rcases hh with⟨rfl,rfl,_⟩|⟨b,o,hb,_,⟨cs,⟨c,rfl,_,_,ho,_⟩|⟨c,rfl,_,ho,_⟩,ht⟩,_⟩
 .rfl
 .obtain rfl:=ab ho;have hc:Ev.cut cs 0 (k.length*size)=some k.flatten:=ii (by rw[List.drop_zero,ht]) hfl;simp only[de,bF,knownCells,hb,ay,hc]
 .obtain rfl:=ab ho;have hc:Ev.cut cs 0 (k.length*size)=some k.flatten:=ii (by rw[List.drop_zero,ht]) hfl;simp only[de,bF,knownCells,hb,ay,hc]
theorem tf{st xt:TypeId}{xd:TypeDesc}(hst:tyU P st=some (.slice e))(hxt:tyU P xt=some xd)(hxd:jB xd=false)(hi:gC P e size)(hsz:0<size)(hsrc:de Γ h size w=some (k.flatten,k.length))(hall2:∀x∈k,x.length=size/\x.all SV.one=true)(s:St Z (dL e size v l::m) h)(hn:l.length<=1900000)(hk:k.length<=1900000):
 ∃v' H,cQ P Γ h [st,xt] v w=some (oneS v',H)/\h.next<=H.next/\St Z (dL e size (oneS v') (l++k)::m) H:=by
 obtain⟨i,z,hi,hz,his,hby,hzs⟩:=hi;subst his;obtain⟨hall,hh⟩:=dR s;have hfs:=el λy hy=>(hall y hy).1;have hfk:=el λy hy=>(hall2 y hy).1;have hcond:(Nat.ble i.bytes 1000&&Nat.ble k.length 2000000&&Nat.blt 0 i.size&&Nat.beq (SV.cells (.lit z)).length i.size&&Nat.beq k.flatten.length (k.length*i.size))=true:=by
  rw[ai hby,ai (show k.length<=2000000 by omega),show Nat.blt 0 i.size=true from ai hsz,jL hzs,jL hfk];rfl
 have hone:k.flatten.all SV.one=true:=by
  rw[aE];intro x hx;obtain⟨y,hy,hxy⟩:=List.mem_flatten.1 hx;exact aE.1 (hall2 y hy).2 x hxy
 have hnew:∀x∈l++k,x.length=i.size/\x.all SV.one=true:=λx hx=>by
  rcases List.mem_append.1 hx with hx|hx
  .exact hall x hx
  .exact hall2 x hx
 have hlen:(l++k).length=l.length+k.length:=ac;have hfl:(l++k).flatten=l.flatten++k.flatten:=List.flatten_append;have hmul:(l.length+k.length)*i.size=l.flatten.length+k.flatten.length:=by rw[Nat.add_mul,hfs,hfk]
 have htk:(l.flatten++k.flatten).take ((l.length+k.length)*i.size)=l.flatten++k.flatten:=by rw[hmul,<-ac,List.take_length]
 have hrow:∀b,qZ (some (.row (l.flatten++k.flatten) e (l.length+k.length) b i.size)) b e i.size (.row b 0 (l.length+k.length) (l.length+k.length) b) (l++k):=λb=>
  ⟨_,.inr ⟨_,by rw[hlen],by rw[hlen];exact av _,rfl,by rw[hlen,ac,hmul];exact av _⟩,by rw[hlen,htk,hfl]⟩
 have hv:∀b,oneS (.row b 0 (l.length+k.length) (l.length+k.length) b)=.row b 0 (l.length+k.length) (l.length+k.length) b:=λb=>cm rfl (by simp only[SV.same,bb,aF]);rcases hh with⟨rfl,rfl,s'⟩|⟨b,o,hb,hbn,⟨cs,⟨q,rfl,c1,c2,ho,hcs⟩|⟨q,rfl,c1,ho,hcs⟩,a4⟩,s'⟩
 .by_cases hk0:k.length=0
  .have hkn:k=[]:=List.length_eq_zero_iff.1 hk0;have hno:oneS (.lit (.slice none 0 0))=.lit (.slice none 0 0):=cm rfl (by simp[SV.same,dr]);refine⟨.lit (.slice none 0 0),h,?_,av _,?_⟩
   .rw[hno];simp only[cQ,hst,hxt,hxd,hi,hz,hsrc,bg,hcond,bf,jL hk0]
   .rw[hno,hkn];exact kZ.2 s'
  .refine⟨.row h.next 0 (0+k.length) (0+k.length) h.next,_,?_,Nat.le_succ _,ee hnew (St.new (o:=.row k.flatten e (0+k.length) h.next i.size) s') (by rw[show oneS (.row h.next 0 (0+k.length) (0+k.length) h.next)=_ from hv h.next];exact hrow h.next)⟩;rw[show oneS (.row h.next 0 (0+k.length) (0+k.length) h.next)=_ from hv h.next];simp only[cQ,hst,hxt,hxd,hi,hz,hsrc,bg,hcond,bf,EQ hk0,dh,aw,aX]
 .obtain rfl:=ab ho;have hslc:∀n,oneS (.slice b 0 n q)=.slice b 0 n q:=λn=>cm rfl (by simp only[SV.same,bb,aF]);by_cases hroom:l.length+k.length<=q
  .have hm:(l.length+k.length)*i.size<=q*i.size:=Nat.mul_le_mul_right _ hroom;rw[Nat.add_mul]at hm;have hsp:cH cs (0+l.length*i.size) k.flatten=some (cs.take (l.length*i.size)++k.flatten++cs.drop (l.length*i.size+k.flatten.length)):=by
    rw[aX];exact iJ bj hone
   have s2:St Z (own b (.cells (cs.take (l.length*i.size)++k.flatten++cs.drop (l.length*i.size+k.flatten.length)) e)::m) _:=St.set (l:=[]) s';refine⟨.slice b 0 (l.length+k.length) q,⟨h.objs.set b (.cells (cs.take (l.length*i.size)++k.flatten++cs.drop (l.length*i.size+k.flatten.length)) e),h.next⟩,?_,av _,ee hnew s2 ⟨_,.inl ⟨q,by rw[hlen,hslc],by rw[hlen];exact hroom,c2,rfl,?_⟩,?_⟩⟩
   .rw[hslc];simp only[cQ,hst,hxt,hxd,hi,hz,hsrc,bg,hcond,bf,ai c2,ai c1,aF,ai hroom,hb,hsp,af,Hp.upd]
   .simp only[ac,aL,aR];omega
   .have e1:(cs.take (l.length*i.size)++k.flatten).length=(l++k).length*i.size:=by
     rw[hlen,ac,aL,Nat.add_mul,hfk,Nat.min_eq_left bj]
    rw[<-e1,List.take_left,a4,hfl]
  .have hread:bF Γ h (.ptr b 0) (l.length*i.size)=some (l.flatten,[.cells b 0 l.flatten]):=by
    have:Ev.cut cs 0 (l.length*i.size)=some l.flatten:=ii (by rw[List.drop_zero,a4]) hfs;simp only[bF,knownCells,hb,ay,this]
   have hno:Nat.ble (l.length+k.length) q=false:=by
    cases hh:Nat.ble (l.length+k.length) q with
    |false=>rfl
    |true=>exact absurd (aG hh) hroom
   refine⟨.row h.next 0 (l.length+k.length) (l.length+k.length) h.next,_,?_,Nat.le_succ _,ee hnew (St.new (o:=.row (l.flatten++k.flatten) e (l.length+k.length) h.next i.size) (s'.drop (l:=[_]))) (by rw[hv h.next];exact hrow h.next)⟩;rw[hv h.next];simp only[cQ,hst,hxt,hxd,hi,hz,hsrc,bg,hcond,bf,ai c2,ai c1,aF,hno,hread,dh]
 .obtain rfl:=ab ho;by_cases hk0:k.length=0
  .have hkn:k=[]:=List.length_eq_zero_iff.1 hk0;have hvo:oneS (.row b 0 l.length q b)=.row b 0 l.length q b:=cm rfl (by simp only[SV.same,bb,aF]);refine⟨.row b 0 l.length q b,h,?_,av _,?_⟩
   .rw[hvo];simp only[cQ,hst,hxt,hxd,hi,hz,hsrc,bg,hcond,bf,ai (show l.length<=2000000 by omega),hb,jL rfl,ai c1,ai hcs,hone,jL hk0,aF]
   .rw[hvo,hkn,List.append_nil];exact s
  .have s0:St Z m ⟨h.objs.put b none,h.next⟩:=by
    have sk:∀x,x≠b->(h.objs.put b none).get x=h.objs.get x:=λx hx=>by rw[T.get_put,bh hx]
    obtain⟨D,h1,⟨h2,h3⟩,h4⟩:=s'.sep;have hz:Z.objs.get b=none:=Classical.not_not.1 (h1 b ((h2 b).2 rfl)).1;exact⟨λx p he=>(sk x (λhh=>by rw[hh,hz]at he;cases he)).trans (s'.frz x p he),s'.zlt,db (λx hx=>.inl hx) (gZ (h:=h) (av _) (λx _ hx=>sk x λhh=>hx (.inr ((h2 x).2 hh))) h4)⟩
   refine⟨.row h.next 0 (l.length+k.length) (l.length+k.length) h.next,_,?_,Nat.le_succ _,ee hnew (St.new (o:=.row (l.flatten++k.flatten) e (l.length+k.length) h.next i.size) s0) (by rw[hv h.next];exact hrow h.next)⟩;rw[hv h.next];simp only[cQ,hst,hxt,hxd,hi,hz,hsrc,bg,hcond,bf,ai (show l.length<=2000000 by omega),hb,jL rfl,ai c1,ai hcs,hone,EQ hk0,aF,a4,dh]
theorem um{st:TypeId}(hst:tyU P st=some (.slice e))(hi:gC P e size)(hsz:0<size)(hsrc:de Γ h size w=some (k.flatten,k.length))(hall2:∀x∈k,x.length=size/\x.all SV.one=true)(s:St Z (dL e size v l::m) h)(hn:l.length<=1900000)(hk:k.length<=1900000):
 ∃v' H,cQ P Γ h [st,st] v w=some (oneS v',H)/\h.next<=H.next/\St Z (dL e size (oneS v') (l++k)::m) H:=tf hst hst rfl hi hsz hsrc hall2 s hn hk
theorem EX{st:TypeId}(hst:tyU P st=some (.slice e))(hi:gC P e size)(hsz:0<size)(s:St Z (dL e size v l::dL e size w k::m) h)(hn:l.length<=1900000)(hk:k.length<=1900000):
 ∃v' H,cQ P Γ h [st,st] v w=some (oneS v',H)/\h.next<=H.next/\St Z (dL e size (oneS v') (l++k)::dL e size w k::m) H:=
 um hst hi hsz (HC s.rot1) (dR s.rot1).1 s hn hk
theorem yf{b n:Nat}{cs:List SV}(hall:∀x∈l,x.length=size/\x.all SV.one=true)(hn:l.length=n)(hc:cs=l.flatten)(hb:n<=2000000)(s:St Z (own b (.cells cs e)::m) h):St Z (dL e size (.slice b 0 n n) l::m) h:=by
 subst hn hc;exact ee hall s ⟨_,.inl ⟨l.length,rfl,av _,hb,rfl,el λy hy=>(hall y hy).1⟩,by rw[<-el λy hy=>(hall y hy).1,List.take_length]⟩
end
section
variable {P:Program}{Γ:Glob}{Z h:Hp}{m:List Asrt}{e:TypeId}{size:Nat}{v w:SV}{α:Type}{enc:α->List SV}{L M:List α}
theorem H3{st:TypeId}(hst:tyU P st=some (.slice e))(hi:gC P e size)(hsz:0<size)(s:St Z (lsA e size enc v L::lsA e size enc w M::m) h)(hn:L.length<=1900000)(hk:M.length<=1900000):
 ∃v' H,val (cQ P Γ h [st,st] v w)=some [(oneS v',H)]/\h.next<=H.next/\True/\St Z (lsA e size enc (oneS v') (L++M)::lsA e size enc w M::m) H:=by
 obtain⟨v',H,h1,h2,h3⟩:=EX (Γ:=Γ) hst hi hsz s (by rw[ao];exact hn) (by rw[ao];exact hk);exact⟨v',H,by rw[h1];rfl,h2,trivial,by simp only[lsA,aH];exact h3⟩
theorem Bw:∀s:bn,(s.map byE).flatten=s.map λb=>SV.lit (.int .u8 b.toNat)
 |[]=>rfl
 |b::s=>by rw[ax,aZ,Bw s];rfl
theorem JX{st xt:TypeId}{xd:TypeDesc}{L s:bn}(hst:tyU P st=some (.slice e))(hxt:tyU P xt=some xd)(hxd:jB xd=false)(hi:gC P e 1)(hs:St Z (lsA e 1 byE v L::m) h)(hn:L.length<=1900000)(hk:s.length<=1900000):
 ∃v' H,val (cQ P Γ h [st,xt] v (.lit (.string ⟨⟨s⟩⟩)))=some [(oneS v',H)]/\h.next<=H.next/\(L++s=[]->v=.lit (.slice none 0 0)->oneS v'=.lit (.slice none 0 0))/\St Z (lsA e 1 byE (oneS v') (L++s)::m) H:=by
 by_cases hc:s=[]/\v=.lit (.slice none 0 0)
 .obtain⟨rfl,rfl⟩:=hc;have hno:oneS (.lit (.slice none 0 0))=.lit (.slice none 0 0):=cm rfl (by simp[SV.same,dr]);obtain⟨i,z,hi,hz,his,hby,hzs⟩:=hi;have hsrc:de Γ h i.size (.lit (.string ⟨⟨[]⟩⟩))=some ([],0):=by rw[his];rfl
  have hcond:(Nat.ble i.bytes 1000&&Nat.ble 0 2000000&&Nat.blt 0 i.size&&Nat.beq (SV.cells (.lit z)).length i.size&&Nat.beq ([]:List SV).length (0*i.size))=true:=by
   rw[ai hby,show Nat.blt 0 i.size=true by rw[his];rfl,jL (hzs.trans his.symm),Nat.zero_mul];rfl
  refine⟨.lit (.slice none 0 0),h,?_,av _,λ_ _=>hno,?_⟩
  .rw[hno];simp only[cQ,hst,hxt,hxd,hi,hz,hsrc,bg,hcond,bf,jL rfl];rfl
  .rw[hno,List.append_nil];exact hs
 .obtain⟨v',H,h1,h2,h3⟩:=tf (Γ:=Γ) (w:=.lit (.string ⟨⟨s⟩⟩)) (k:=s.map byE) hst hxt hxd hi (by decide) (by rw[Bw,ao];rfl) (λx hx=>by obtain⟨b,_,rfl⟩:=List.mem_map.1 hx;exact⟨rfl,rfl⟩) hs (by rw[ao];exact hn) (by rw[ao];exact hk);exact⟨v',H,by rw[h1];rfl,h2,λe1 e2=>absurd ⟨(List.append_eq_nil_iff.1 e1).2,e2⟩ hc,by simp only[lsA,aH];exact h3⟩
theorem iU{b n:Nat}{cs:List SV}(hall:∀x∈L,(enc x).length=size/\(enc x).all SV.one=true)(hn:L.length=n)(hc:cs=(L.map enc).flatten)(hb:n<=2000000)(s:St Z (own b (.cells cs e)::m) h):St Z (lsA e size enc (.slice b 0 n n) L::m) h:=
 yf (λx hx=>by obtain⟨y,hy,rfl⟩:=List.mem_map.1 hx;exact hall y hy) (by rw[ao];exact hn) hc hb s
end
section
variable {Γ:Glob}{Z h:Hp}{m:List Asrt}{v w L:SV}{ts us ks:List Tr}
end
section
variable {κ α:Type}[DecidableEq κ]
def mpS(kc:κ->SV)(ve:α->SV)(s:SV)(L:List (κ×α)):Asrt:=exA λm:Nat=>jx (puA (s=.map m)) (mpA kc ve m L)
end
section
variable {κ α:Type}[DecidableEq κ]{P:Program}{Z h:Hp}{m:List Asrt}{kt vt:TypeId}{kc:κ->SV}{ve:α->SV}{v:SV}{L:List (κ×α)}
end
theorem yY{P:Program}{h:Hp}{t kt vt:TypeId}{k:SV}{kv z:Value}{ok:Bool}(ht:tyU P t=some (.map kt vt))(hk:k.toLit=some kv)(hz:dB P vt=some z)(hc:pureRun P (Instr.checkKey true 10000 kt kv)=some ()):dC P h t (.lit (.map none)) k ok=some (bif ok then .tuple [.lit z,cP false]else .lit z,[]):=by
 have he:d8 h (.lit (.map none))=some ([],[]):=rfl;simp only[dC,ht,hk,he,List.isEmpty_nil,hc,fK,hz]
def fS:SV->Bool
 | .lit (.slice none _ _)=>true
 | .lit (.map none)=>true
 |_=>false
section
variable {P:Program}{Γ:Glob}{Z h:Hp}{m:List Asrt}{e:TypeId}{size:Nat}{v:SV}{α:Type}{enc:α->List SV}{L:List α}
theorem wW{t e':TypeId}(ht:tyU P t=some (.slice e'))(hn:∀xo yo,binQ P .eql t xo yo (.lit (.slice none 0 0)) (.lit (.slice none 0 0))=some (bV true))(s:St Z (lsA e size enc v L::m) h):(fS v=true->L=[])/\∃fs,∀xo yo,one (binQ P .eql t xo yo v (.lit (.slice none 0 0)))=some (bV (fS v),fs):=by
 rcases(dR s).2 with⟨rfl,hl,_⟩|⟨b,o,_,_,⟨_,⟨c,rfl,_⟩|⟨c,rfl,_⟩,_⟩,_⟩
 .exact⟨λ_=>List.map_eq_nil_iff.1 hl,[],λxo yo=>by rw[hn];rfl⟩
 .exact⟨λhh=>(by cases hh),[],λxo yo=>by simp only[binQ,SV.toLit,eZ,ht];rfl⟩
 .exact⟨λhh=>(by cases hh),[],λxo yo=>by simp only[binQ,SV.toLit,eZ,ht];rfl⟩
theorem oX(c:List SV):∀n,di c n=(List.replicate n c).flatten
 |0=>rfl
 |n+1=>by rw[List.replicate_succ,aZ,<-oX c n];rfl
end
abbrev IdL:=Int×Int
abbrev AX:=List (IdL×Bool)
abbrev idsOf(A:AX):List IdL:=A.map (·.1)
abbrev gh(A:AX):List Bool:=A.map (·.2)
def idE(a:IdL):List SV:=[iV a.1,iV a.2]
def boE(b:Bool):List SV:=[bV b]
def inE(z:Int):List SV:=[iV z]
def idK(a:IdL):SV:=.agg [iV a.1,iV a.2]
def iiE(z:Int):SV:=iV z
def bbE(b:Bool):SV:=bV b
theorem cG{α β:Type}(P:Program)(s:Sem α)(f:α->Sem β):pureRun P (s>>=f)=(pureRun P s).bind λa=>pureRun P (f a):=by
 show pureRun P (s.bind f)=_
 induction s with
 |pure a=>rfl
 |program k ih=>exact ih P
 |mark m k ih=>exact ih
 |_=>rfl
theorem fv{α:Type}(P:Program)(a:α):pureRun P (pure a)=some a:=rfl
noncomputable def Me:Array Field:=match Tryz.prog.underlying 43 with
 |some (.struct fs)=>fs
 |_=>#[]
noncomputable def idF(i:Nat):Field:=match Me[i]? with
 |some f=>f
 |none=>default
theorem B6:Me=#[idF 0,idF 1]:=bm
theorem idU:pureRun Tryz.prog (underlying 43)=some (.struct Me):=bm
theorem HL:Tryz.prog.stoodInHeld 43=false:=bm
theorem QZ:(decide ((idF 0).name≠ "_"))=true:=bm
theorem Qa:(decide ((idF 1).name≠ "_"))=true:=bm
theorem PO:(idF 0).type=3:=bm
theorem Oi:(idF 1).type=3:=bm
theorem Oe(a b:Int):pureRun Tryz.prog (part 3 #[.int .i64 a,.int .i64 b] (idF 0).offset)=some (.int .i64 a):=bm
theorem Ik(a b:Int):pureRun Tryz.prog (part 3 #[.int .i64 a,.int .i64 b] (idF 1).offset)=some (.int .i64 b):=bm
theorem CO(a b:Int):pureRun Tryz.prog (Op.equalIn 9999 3 (.int .i64 a) (.int .i64 b))=some (a==b):=bm
set_option maxRecDepth 100000 in
theorem Qm(a b c d:Int):pureRun Tryz.prog (Op.equal 43 (.agg #[.int .i64 a,.int .i64 b]) (.agg #[.int .i64 c,.int .i64 d]))=some ((a==c)&&(b==d)):=by
 have n0:(idF 0).name≠ "_" :=of_decide_eq_true QZ;have n1:(idF 1).name≠ "_" :=of_decide_eq_true Qa;have hp:pureRun Tryz.prog program=some Tryz.prog:=rfl;show pureRun Tryz.prog (Op.equalIn (9999+1) 43 (.agg #[.int .i64 a,.int .i64 b]) (.agg #[.int .i64 c,.int .i64 d]))=_;rw[Op.equalIn,cG,idU];simp only[ay];rw[cG,hp];simp only[ay,HL,aA,if_false];rw[cG,B6,List.forIn_toArray];simp only[List.forIn_cons,List.forIn_nil];simp only[bi n0,bi n1,cG,fv,Oe,Ik,ay,PO,Oi,CO];cases(a==c)with
 |false=>rfl
 |true=>
  simp only[Bool.not_true,aA,if_false,fv,ay,cG,Ik,CO];cases(b==d)<;>rfl
theorem Pt(e:Bool)(a b:Int):pureRun Tryz.prog (Instr.checkKey e 10000 43 (.agg #[.int .i64 a,.int .i64 b]))=some ():=bm
theorem lF:KeyOk Tryz.prog 43 idK where
 lit a:=⟨.agg #[.int .i64 a.1,.int .i64 a.2],rfl,λe=>Pt e _ _,by simp[Instr.sameBits]⟩
 eq a b v w hv hw:=by
  obtain rfl:Value.agg #[.int .i64 a.1,.int .i64 a.2]=v:=ab hv;obtain rfl:Value.agg #[.int .i64 b.1,.int .i64 b.2]=w:=ab hw;rw[Qm];obtain⟨a1,a2⟩:=a;obtain⟨b1,b2⟩:=b;by_cases h1:a1=b1<;>by_cases h2:a2=b2<;>simp[h1,h2]
theorem jV:gC Tryz.prog 43 2:=by
 have h:(Tryz.prog.info? 43).isSome=true:=bm;obtain⟨i,hi⟩:=Option.isSome_iff_exists.1 h;have h2:((Tryz.prog.info? 43).bind (·.zero)).isSome=true:=bm;rw[hi]at h2;obtain⟨z,hz⟩:=Option.isSome_iff_exists.1 h2;have h3:((Tryz.prog.info? 43).map λi=>Nat.beq i.size 2&&(Nat.ble i.bytes 1000&&(i.zero.map λz=>Nat.beq (SV.cells (.lit z)).length 2).getD false))=some true:=bm;have hz':i.zero=some z:=hz;rw[hi,af,hz',af,Option.getD_some,a7,a8,a8]at h3;exact⟨i,z,hi,hz',aj h3.1,aG h3.2.1,aj h3.2.2⟩
theorem y8:gC Tryz.prog 4 1:=by
 have h:(Tryz.prog.info? 4).isSome=true:=bm;obtain⟨i,hi⟩:=Option.isSome_iff_exists.1 h;have h2:((Tryz.prog.info? 4).bind (·.zero)).isSome=true:=bm;rw[hi]at h2;obtain⟨z,hz⟩:=Option.isSome_iff_exists.1 h2;have h3:((Tryz.prog.info? 4).map λi=>Nat.beq i.size 1&&(Nat.ble i.bytes 1000&&(i.zero.map λz=>Nat.beq (SV.cells (.lit z)).length 1).getD false))=some true:=bm;have hz':i.zero=some z:=hz;rw[hi,af,hz',af,Option.getD_some,a7,a8,a8]at h3;exact⟨i,z,hi,hz',aj h3.1,aG h3.2.1,aj h3.2.2⟩
def yM:AX->Int->List Int
 |[],_=>[]
 |(_,b)::A,n=>n::yM A (if b then n+1 else n)
def Hl(A:AX):List IdL:=(A.filter (·.2)).map (·.1)
def Jo(A:AX):List (IdL×Int):=A.zipIdx.map λx=>(x.1.1,(x.2:Int))
def yQ(A:AX)(s a b:SV):Asrt:=jx (mpS idK iiE s (Jo A)) (jx (lsA 3 1 inE a (yM A 0)) (lsA 43 2 idE b (Hl A)))
def uy(s a b:SV):Asrt:=puA (s=.lit (.map none)/\a=.lit (.slice none 0 0)/\b=.lit (.slice none 0 0))
def axA(p:Nat)(A:AX):Asrt:=exA λx:SV×SV×SV×SV×SV×Bool=>jx (own p (.cells [oneS x.1,oneS x.2.1,oneS x.2.2.1,oneS x.2.2.2.1,oneS x.2.2.2.2.1] 118)) (jx (lsA 43 2 idE (oneS x.1) (A.map (·.1))) (jx (lsA 4 1 boE (oneS x.2.1) (A.map (·.2))) (yA x.2.2.2.2.2 (yQ A (oneS x.2.2.1) (oneS x.2.2.2.1) (oneS x.2.2.2.2.1)) (uy (oneS x.2.2.1) (oneS x.2.2.2.1) (oneS x.2.2.2.2.1)))))
section
variable {Z h:Hp}{l:List Asrt}{p:Nat}{A:AX}{x y s a b:SV}{q:Bool}
theorem Iq(s:St Z (axA p A::l) h):∃(x y s a b:SV) (q:Bool),True/\St Z (own p (.cells [oneS x,oneS y,oneS s,oneS a,oneS b] 118)::lsA 43 2 idE (oneS x) (A.map (·.1))::lsA 4 1 boE (oneS y) (A.map (·.2))::yA q (yQ A (oneS s) (oneS a) (oneS b)) (uy (oneS s) (oneS a) (oneS b))::l) h:=by
 obtain⟨⟨x,y,c,a,b,q⟩,s⟩:=eL.1 s;have s:=cO.1 s;have s:=cO.1 s.rot1;have s:=cO.1 s.rot1;exact⟨x,y,c,a,b,q,trivial,s.perm (by
  classical
  exact List.perm_iff_count.2 λa=>by simp only[List.count_cons];omega)⟩
theorem qU(w:St Z (own p (.cells [oneS x,oneS y,oneS s,oneS a,oneS b] 118)::lsA 43 2 idE (oneS x) (A.map (·.1))::lsA 4 1 boE (oneS y) (A.map (·.2))::yA q (yQ A (oneS s) (oneS a) (oneS b)) (uy (oneS s) (oneS a) (oneS b))::l) h):St Z (axA p A::l) h:=by
 refine eL.2 ⟨⟨x,y,s,a,b,q⟩,cO.2 (St.rot1 (cO.2 (St.rot1 (cO.2 (w.perm ?_)))))⟩
 classical
 exact List.perm_iff_count.2 λa=>by simp only[List.count_cons];omega
theorem JO(w:St Z (own p (.cells [oneS x,oneS y,.lit (.map none),.lit (.slice none 0 0),.lit (.slice none 0 0)] 118)::lsA 43 2 idE (oneS x) (A.map (·.1))::lsA 4 1 boE (oneS y) (A.map (·.2))::l) h):St Z (axA p A::l) h:=by
 have h1:oneS (.lit (.map none))=.lit (.map none):=cm rfl (by simp[SV.same,dr]);have h2:oneS (.lit (.slice none 0 0))=.lit (.slice none 0 0):=cm rfl (by simp[SV.same,dr]);refine qU (x:=x) (y:=y) (s:=.lit (.map none)) (a:=.lit (.slice none 0 0)) (b:=.lit (.slice none 0 0)) (q:=false) ?_;rw[h1,h2];have w2:St Z (uy (.lit (.map none)) (.lit (.slice none 0 0)) (.lit (.slice none 0 0))::_) h:=i1.2 ⟨⟨rfl,rfl,rfl⟩,w⟩;exact w2.perm (by
  classical
  exact List.perm_iff_count.2 λa=>by simp only[yA,bg,List.count_cons];omega)
end
section
variable {κ α:Type}[DecidableEq κ]
theorem AB{k x:κ}{v:α}:∀{L:List (κ×α)},dZ (mset L k v) x=if x=k then some v else dZ L x:=by
 rw[lP];intro L
 induction L with
 |nil=>simp only[gb,dZ]
 |cons a l ih=>
  obtain⟨a,y⟩:=a;by_cases h:k=a
  .subst h;simp only[gb,if_true,dZ];by_cases hx:x=k
   .simp[hx]
   .simp[hx]
  .simp only[gb,bh h,dZ,ih];by_cases hx:x=a
   .have hk:¬x=k:=λe=>h (by rw[<-e,hx]);subst hx;rw[bi rfl,bh hk,bi rfl]
   .simp[hx]
theorem ot[Inhabited α]{k x:κ}{v:α}{L:List (κ×α)}:mget (mset L k v) x=if x=k then v else mget L x:=by
 unfold mget;rw[AB];split<;>rfl
end
theorem eh{α:Type}[Inhabited α]{L:List α}{i:Int}(h0:0<=i)(h1:i<L.length):L.take (i+1).toNat=L.take i.toNat++[lget L i]:=by
 have hi:i.toNat<L.length:=by omega
 rw[show(i+1).toNat=i.toNat+1 by omega,List.take_succ_eq_append_getElem hi];simp only[lget,aB hi,Option.getD_some]
theorem fz{α:Type}[Inhabited α]{L:List α}{i:Int}(h0:0<=i)(h1:i<L.length):lget L i∈L:=aW (dG h0 h1)
theorem Bh{α:Type}[Inhabited α]{L:List α}{i:Int}(hn:L.Nodup)(h0:0<=i)(h1:i<L.length):lget L i∉L.take i.toNat:=by
 have hi:i.toNat<L.length:=by omega
 have:=eh h0 h1;have h2:(L.take (i+1).toNat).Nodup:=hn.sublist (List.take_sublist _ _);rw[this]at h2;exact λhm=>(List.nodup_append.1 h2).2.2 _ hm _ (List.mem_singleton.2 rfl) rfl
structure NewI(L:List IdL)(i:Int)(X:List IdL)(Y:List Bool)(C:List (IdL×Bool)):Prop where
 a:0<=i
 b:i<=L.length
 c:X=L.take i.toNat
 d:(X.length:Int)=i
 e:Y=X.map (λ_=>true)
 f:∀x:IdL,mget C x=true->x∈X
section
variable {L X:List IdL}{i:Int}{Y:List Bool}{C:List (IdL×Bool)}
theorem Pw:NewI L 0 [] [] []:=⟨Int.le_refl _,by omega,rfl,rfl,rfl,λx h=>by simp[mget,dZ]at h⟩
theorem Hr(h:NewI L i X Y C)(h1:i<L.length):NewI L (i+1) (X++[((lget L i).1,(lget L i).2)]) (Y++[true]) (mset C ((lget L i).1,(lget L i).2) true):=by
 obtain⟨a,b,c,d,e,f⟩:=h;refine⟨by omega,by omega,by rw[eh a h1,c],by simp only[ac,au,aw];omega,by rw[e];simp,λx hx=>?_⟩;rw[ot]at hx;by_cases hk:x=((lget L i).1,(lget L i).2)
 .rw[hk];simp
 .rw[bh hk]at hx;exact aK _ (f x hx)
theorem Ez(h:NewI L i X Y C)(h1:i<L.length)(hn:L.Nodup)(hz:((0,0):IdL)∉L):mget C ((lget L i).1,(lget L i).2)=false/\¬((lget L i).1=0/\(lget L i).2=0):=by
 obtain⟨a,b,c,d,e,f⟩:=h;refine⟨?_,λhh=>hz ?_⟩
 .cases hc:mget C ((lget L i).1,(lget L i).2)with
  |false=>rfl
  |true=>
   have:=f _ hc;rw[c]at this;exact absurd this (Bh hn a h1)
 .have:=fz (L:=L) a h1;rw[show lget L i=((lget L i).1,(lget L i).2)from rfl,hh.1,hh.2]at this;exact this
end
section
variable {Z h:Hp}{l:List Asrt}{p:Nat}{I:List IdL}{B:List Bool}{x y:SV}
theorem zr{α β:Type}:∀{I:List α} {B:List β},I.length=B.length->(I.zip B).map (·.1)=I
 |[],[],_=>rfl
 |a::I,b::B,h=>by simp[zr (I:=I) (B:=B) (by simpa using h)]
theorem zt{α β:Type}:∀{I:List α} {B:List β},I.length=B.length->(I.zip B).map (·.2)=B
 |[],[],_=>rfl
 |a::I,b::B,h=>by simp[zt (I:=I) (B:=B) (by simpa using h)]
theorem xM(he:I.length=B.length)(w:St Z (own p (.cells [oneS x,oneS y,.lit (.map none),.lit (.slice none 0 0),.lit (.slice none 0 0)] 118)::lsA 43 2 idE (oneS x) I::lsA 4 1 boE (oneS y) B::l) h):St Z (axA p (I.zip B)::l) h:=by
 refine JO (x:=x) (y:=y) ?_;rw[zr he,zt he];exact w
end
section
variable {Z h:Hp}{l:List Asrt}{p:Nat}{A:AX}{x y s a b:SV}
end
theorem lT(A:AX):((idsOf A).length:Int)=A.length:=by simp[idsOf]
theorem lC(A:AX):((gh A).length:Int)=A.length:=by simp[gh]
section
variable {A:AX}{i:Int}{C:List (IdL×Int)}{H:List Int}{V:List IdL}
end
end Go.Proofs.YtbhokokpplmigaaGreatDoor.Sx
