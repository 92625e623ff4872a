/-
  A part of the proof of FileReads; no condition.
-/
import Derived.Test.YtbhokokpplmigaaGreatDoorFaGG
import Derived.Test.YtbhokokpplmigaaGreatDoorFaGC
set_option linter.all false
namespace Go.Proofs.YtbhokokpplmigaaGreatDoor.Sx
open Go Go.Proofs.YtbhokokpplmigaaGreatDoor.Ev
set_option maxRecDepth 20000
set_option maxHeartbeats 4000000
variable (Γ:Glob)[Mute Γ]{Z0 h:Hp}{l:List Asrt}
theorem Kx0{P:Prop}(h:P:=by first|omega|exact hn.e|exact gV|exact CB hn (by assumption)|first|omega|(and_intros<;>intros<;>and_intros<;>first|omega|assumption|exact V1)):P:=h
theorem Kx1{P:Prop}(h:P:=by first|exact gV|exact CB hn (by assumption)):P:=h
abbrev Tx(Γ:Glob)(v:SV)(ks:List Tr):TG:=λl Zq vq hq=>∃w:SV,(NilK w ks)/\vq=(oneS w)/\St Zq (br Γ (oneS v) ks::nlA Γ (oneS w) ks::l) hq
theorem RA(v:SV)(ks:List Tr)(h1:(ks.length:Int)<=1000000)(hn:NilK v ks)(hs:St Z0 (br Γ (oneS v) ks::l) h):RC Γ Z0 184 [(oneS v)] h (Tx Γ v ks l):=by
 refine bL Tryz.f184 Tryz.func184 [.raw 0] [.asr 0] ⟨0,0,0,1,0,1⟩ (va {r:=[v],a:=[br Γ (oneS v) ks]}) (.row (.bin .eql 83 (.raw 0) (.lit mt)) [.asr 0] (vB 0) ⟨0,0,1,1,0,1⟩<|.fork (.bv 0) (.swap [] [.asr 1] ⟨0,0,1,1,0,2⟩<|.ret (.lit mt) [.asr 0,.asr 1])<|.new<|.swap [.blk 0 [] 85] [.asr 1] ⟨0,0,1,1,1,2⟩<|.eff (.app [83,83] (.slice 0 0 0 0) (.raw 0)) [.asr 1,.asr 0] (.raw 1) [.asr 2,.asr 3] ⟨0,0,1,2,1,4⟩<|.ret (.raw 1) [.asr 3,.asr 2]) hs ?_;refine dD {b:=[(fS (oneS v))]} (fS (oneS v)=true->ks=[]) (λl h hs=>EE (m:=l) (h:=h) rfl (λ_ _=>by kernel_rfl) hs) λkn0=>?_;refine bo ((fS (oneS v))=true) rfl (λcd1=>?_) λcd1=>?_
 .refine dsU {a:=[nlA (Γ) (oneS (.lit mt)) []]} (λl h hs=>Bz (hs) (l:=l) (h:=h)) ?_;exact an λh hs=>⟨(.lit mt),Kx1,by first|rfl|(show(.lit mt:SV)=_;simp_all),TI⟩
 .refine bA λbk0=>?_;refine dsU {a:=[nlA Γ (.slice bk0 0 0 0) []]} (λl h hs=>MF (hs) (m:=l) (h:=h)) ?_;refine dJ (λ(v3:SV)=>{r:=[v3],a:=[nlA Γ (oneS v3) ks,br Γ (oneS v) ks]}) (λ_=>True) (λl h hs=>Ki (m:=l) (h:=h) rfl Kx0 hs Kx0 Kx0) λv3 _=>?_;exact an λh hs=>⟨v3,Kx1,by first|rfl|(show((oneS v3):SV)=_;simp_all),TI⟩
section
variable {Γ:Glob}{f g:Nat->Option AObj}{p:SV}{t:Tr}
theorem xE{b o:Nat}{l:List SV}{x:ND}{K:SV}{ks:List Tr}(hf:c8 f b=some l)(ho:∀c,c≠b->∀v,f c=some v->g c=some v)(hc:cut l o 22=some (x.cells K))(hoff:∀q y L,q≠o->cut l q 22=some (ND.cells y L)->WinV g b q (y.cells L))
 (hT:TreeV Γ f (.ptr b o) ⟨x,ks⟩) (w:TreeV Γ f p t):t.size<(Tr.mk x ks).size->TreeV Γ g p t:=by
 induction w with
 |@mk p y L js q h1 h2 h3 h4 ih=>
  intro hs;have hk:∀i t,js[i]? =some t->TreeV Γ g (q i) t:=λi t hi=>ih i t hi (by
   have:=m9 hi;rw[fa]at hs;omega)
  rcases h1 with⟨b1,o1,rfl,l1,e1,e2⟩|h1
  .by_cases hb:b1=b
   .subst hb;obtain rfl:l=l1:=ab (hf.symm.trans e1);by_cases hq:o1=o
    .subst hq;have e:=TreeV.uniq hT (.mk q (.inl ⟨b1,o1,rfl,l,e1,e2⟩) h2 h3 h4);rw[e]at hs;exact absurd hs (Nat.lt_irrefl _)
    .exact .mk q (.inl ⟨b1,o1,rfl,hoff o1 y L hq e2⟩) h2 h3 hk
   .refine .mk q (.inl ⟨b1,o1,rfl,l1,?_,e2⟩) h2 h3 hk;unfold c8 at e1⊢;cases hv:f b1 with
    |none=>rw[hv]at e1;cases e1
    |some v=>rw[ho b1 hb v hv];rw[hv]at e1;exact e1
  .exact .mk q (.inr h1) h2 h3 hk
end
def Qb(D:Nat->Prop)(h:Hp)(c:Nat)(y:SV×Tr):Prop:=∃b x K,y.1=.ptr b 0/\D b/\h.objs.get b=some (.cells (ND.cells x K) 85)/\y.2.nd=x/\(2<=c->NilK K y.2.kids)
def P9(D:Nat->Prop)(h:Hp)(y:SV×SV):Prop:=∃b o l x,y.1=.ptr b o/\D b/\c8 h.objs.get b=some l/\cut l o 22=some (ND.cells x y.2)
def hgA(Γ:Glob)(c:Nat)(O R S:List (SV×Tr))(C:List (SV×SV)):Asrt where
 p Z D h:=(∀y∈R,TreeV Γ (fV Z D h) y.1 y.2)/\(∀y∈O,Qb D h c y/\y∈R)/\(S.map Prod.fst++C.map Prod.fst).Nodup/\(∀y∈S,PendAt Γ Z D h y.1 y.2)/\∀y∈C,P9 D h y
 loc:=λhk ⟨h1,h2,h3,h4,h5⟩=>⟨λy hy=>by rw[Nb hk];exact h1 y hy,λy hy=>by
  obtain⟨⟨b,x,K,e1,e2,e3,e4⟩,h6⟩:=h2 y hy;exact⟨⟨b,x,K,e1,e2,by rw[hk b e2];exact e3,e4⟩,h6⟩,h3,λy hy=>by
  obtain⟨b,o,l,x,K,ks,e1,e2,e3,e4⟩:=h4 y hy;exact⟨b,o,l,x,K,ks,e1,e2,by unfold c8 at e3⊢;rw[hk b e2];exact e3,e4⟩,λy hy=>by
  obtain⟨b,o,l,x,e1,e2,e3,e4⟩:=h5 y hy;exact⟨b,o,l,x,e1,e2,by unfold c8 at e3⊢;rw[hk b e2];exact e3,e4⟩⟩
 mono:=λz ⟨h1,h2,h3,h4,h5⟩=>⟨λy hy=>(h1 y hy).sub (Jn z),h2,h3,λy hy=>by
  obtain⟨b,o,l,x,K,ks,e1,e2,e3,e4,e5,e6⟩:=h4 y hy;exact⟨b,o,l,x,K,ks,e1,e2,e3,e4,e5,e6.sub z⟩,h5⟩
def ip(B:Nat)(i:Int):SV:=.ptr B (i.toNat*22)
structure LiAt(v:SV)(B:Nat)(n:Nat):Prop where
 l:LenIs v n
 i:IdxAt v n λi=>.ptr B (i*22)
def liA(v:SV)(B:Nat)(ts:List Tr):Asrt:=frA (λ_=>LiAt v B ts.length) λ_ w=>w
def wt(p w:SV):List (SV×SV):=[(p,oneS w)]
section
variable {Γ:Glob}{Z h:Hp}{m:List Asrt}{K:SV}{T:Tr}{O R S:List (SV×Tr)}{C:List (SV×SV)}{b c:Nat}{x:ND}{ks:List Tr}
theorem Fl{cs:List SV}(hc:cs=x.cells K)(hn:2<=c->NilK K ks)(s:St Z (own b (.cells cs 85)::br Γ K ks::m) h):St Z (hgA Γ c [(.ptr b 0,⟨x,ks⟩)] [(.ptr b 0,⟨x,ks⟩)] [(.ptr b 0,⟨x,ks⟩)] []::br Γ K ks::m) h:=by
 subst hc;obtain⟨w,s'⟩:=cX.1 s.rot1;refine St.rot1 (cX.2 ⟨w,?_⟩);obtain⟨D,h1,⟨h2,h3⟩,h4⟩:=s'.sep;have hD:D b:=(h2 b).2 rfl;have hcl:c8 h.objs.get b=some (x.cells K):=by unfold c8;rw[h3]
 have hcut:cut (x.cells K) 0 22=some (x.cells K):=rfl;refine⟨s'.frz,s'.zlt,D,h1,⟨λy hy=>?_,λy hy=>?_,by simp,λy hy=>?_,λy hy=>by cases hy⟩,h4⟩
 .rw[List.mem_singleton.1 hy];obtain⟨hL,q,hq,ht⟩:=w;refine .mk q (.inl ⟨b,0,rfl,x.cells K,?_,hcut⟩) hL hq λi t hi=>(ht i t hi).toV (wC λb hb=>(h1 b hb).1);unfold c8;rw[xc hD,h3]
 .rw[List.mem_singleton.1 hy];exact⟨⟨b,x,K,rfl,hD,h3,rfl,hn⟩,List.mem_singleton.2 rfl⟩
 .rw[List.mem_singleton.1 hy];exact⟨b,0,_,x,K,ks,rfl,hD,hcl,hcut,rfl,w⟩
theorem mR{S':List (SV×Tr)}{C':List (SV×SV)}(hS:S'.Sublist S)(hC:C'.Sublist C)(s:St Z (hgA Γ c O R S C::m) h):St Z (hgA Γ c O R S' C'::m) h:=by
 obtain⟨D,h1,⟨h2,h3,h5,h6,h7⟩,h4⟩:=s.sep;exact⟨s.frz,s.zlt,D,h1,⟨h2,h3,List.Nodup.sublist ((hS.map _).append (hC.map _)) h5,λy hy=>h6 y (hS.subset hy),λy hy=>h7 y (hC.subset hy)⟩,h4⟩
theorem zp{S':List (SV×Tr)}(e:S=S')(s:St Z (hgA Γ c O R S C::m) h):St Z (hgA Γ c O R S' C::m) h:=by rw[<-e];exact s
theorem lQ{p:SV}{t:TypeId}(ht:e8 Tryz.prog t=some false)(hp:(p,T)∈S)(s:St Z (hgA Γ c O R S C::m) h):∃K,(KidsOf Γ Z (oneS K) T.kids/\((p,T)∈O->2<=c->NilK K T.kids))/\∃fs,dk Tryz.prog Γ h t (gA (oneS p) 21)=some (oneS K,fs):=by
 obtain⟨D,h1,⟨h2,h3,h5,h6,h7⟩,h4⟩:=s.sep;obtain⟨b,o,l,x',K,ks',rfl,e2,e3,e4,e5,e6⟩:=h6 _ hp;subst e5;have e:oneS K=K:=cm e6.1.1 e6.1.2.1;have w:PtrTo Γ h (.ptr b o) (ND.cells x' K):=.inl ⟨b,o,rfl,(h1 b e2).2,l,e3,e4⟩;refine⟨K,⟨by rw[e];exact e6,λhO hc=>?_⟩,_,by rw[e,bP];exact wj (k:=21) ht w rfl⟩;obtain⟨⟨b1,y1,K1,k1,k2,k3,k4,k5⟩,_⟩:=h3 _ hO;cases k1;have e3':c8 h.objs.get b=some (ND.cells y1 K1):=by unfold c8;rw[k3]
 obtain rfl:ND.cells y1 K1=l:=ab (e3'.symm.trans e3);have:cut (ND.cells y1 K1) 0 22=some (ND.cells y1 K1):=rfl;rw[<-(jP (ab (this.symm.trans e4))).2];exact k5 hc
theorem lu{p:SV}(hp:(p,T)∈S)(s:St Z (hgA Γ c O R S C::m) h):True/\∃fs:List Fact,(bif fZ (oneS p)then some (oneS p,([]:List Fact))else none)=some (oneS p,fs):=by
 obtain⟨D,h1,⟨h2,h3,h5,h6,h7⟩,h4⟩:=s.sep;obtain⟨b,o,l,x',K,ks',rfl,e2⟩:=h6 _ hp;exact⟨trivial,[],by rw[bP];rfl⟩
theorem uZ{p w:SV}{t:TypeId}(ht:e8 Tryz.prog t=some false)(s:St Z (hgA Γ c O R S (wt p w)::m) h):True/\∃fs,dk Tryz.prog Γ h t (gA (oneS p) 21)=some (oneS w,fs):=by
 obtain⟨D,h1,⟨h2,h3,h5,h6,h7⟩,h4⟩:=s.sep;obtain⟨b,o,l,x',rfl,e2,e3,e4⟩:=h7 (p,oneS w) (List.mem_singleton.2 rfl);have w':PtrTo Γ h (.ptr b o) (ND.cells x' (oneS w)):=.inl ⟨b,o,rfl,(h1 b e2).2,l,e3,e4⟩;exact⟨trivial,_,by rw[bP];exact wj (k:=21) ht w' rfl⟩
theorem pT{p w:SV}(s:St Z (hgA Γ c O R S (wt p w)::m) h):True/\∃fs:List Fact,(bif fZ (oneS p)then some (oneS p,([]:List Fact))else none)=some (oneS p,fs):=by
 obtain⟨D,h1,⟨h2,h3,h5,h6,h7⟩,h4⟩:=s.sep;obtain⟨b,o,l,x',rfl,e2⟩:=h7 (p,oneS w) (List.mem_singleton.2 rfl);exact⟨trivial,[],by rw[bP];rfl⟩
theorem Cs{b o n i:Nat}{ty:TypeId}(hf:dv Tryz.prog ty (.ptr b o) i=some (.ptr b (o+n))):True/\∃fs:List Fact,one (dv Tryz.prog ty (oneS (.ptr b o)) i)=some (gA (oneS (.ptr b o)) n,fs):=by
 rw[bP,hf];exact⟨trivial,[],rfl⟩
theorem jy{p:SV}{n i:Nat}{ty:TypeId}(hf:∀b o,dv Tryz.prog ty (.ptr b o) i=some (.ptr b (o+n)))(hp:(p,T)∈S)(s:St Z (hgA Γ c O R S C::m) h):True/\∃fs:List Fact,one (dv Tryz.prog ty (oneS p) i)=some (gA (oneS p) n,fs):=by
 obtain⟨D,h1,⟨h2,h3,h5,h6,h7⟩,h4⟩:=s.sep;obtain⟨b,o,l,x',K,ks',rfl,e2⟩:=h6 _ hp;exact Cs (hf b o)
theorem p7{p w:SV}{n i:Nat}{ty:TypeId}(hf:∀b o,dv Tryz.prog ty (.ptr b o) i=some (.ptr b (o+n)))(s:St Z (hgA Γ c O R S (wt p w)::m) h):True/\∃fs:List Fact,one (dv Tryz.prog ty (oneS p) i)=some (gA (oneS p) n,fs):=by
 obtain⟨D,h1,⟨h2,h3,h5,h6,h7⟩,h4⟩:=s.sep;obtain⟨b,o,l,x',rfl,e2⟩:=h7 (p,oneS w) (List.mem_singleton.2 rfl);exact Cs (hf b o)
theorem HE:(ND.cells x K).length=22:=rfl
theorem mT{S1 S2:List (SV×Tr)}{p L':SV}{q':Nat->SV}{t:TypeId}(ht:bI Tryz.prog t=some 1)(hl:LenIs L' ks.length)(hi:IdxAt L' ks.length q')(hc:L'.cells=[L'])(hn:2<=c->NilK L' ks)(hq:∀i t,ks[i]? =some t->(q' i,t)∈S1++S2\/(q' i,t)∈R)(s:St Z (hgA Γ c O R (S1++(p,Tr.mk x ks)::S2) C::m) h):
 ∃H,dA Tryz.prog h t (gA (oneS p) 21) L'=some H/\h.next<=H.next/\St Z (hgA Γ c O R (S1++S2) ((p,L')::C)::m) H:=by
 obtain⟨D,h1,⟨h2,hO,h3,h5,hC⟩,h4⟩:=s.sep;obtain⟨b,o,l,x',K,ks',e1,e2,e3,e4,e5,e6⟩:=h5 (p,Tr.mk x ks) (by simp);obtain⟨rfl,rfl⟩:x=x'/\ks=ks':=by cases e5;exact⟨rfl,rfl⟩
 obtain rfl:p=.ptr b o:=e1;rw[bP];have hlen:o+22<=l.length:=by
  have:=(dg.1 e4).2;rw[aL,aR]at this;omega
 have hsp:cH l (o+21) [L']=some (l.set (o+21) L'):=by
  rw[iJ (by simp;omega) (by simp[hl.1]),List.set_eq_take_append_cons_drop,bi bj];simp
 have hob:∃ob ob',h.objs.get b=some ob/\dA Tryz.prog h t (.ptr b (o+21)) L'=some (h.upd b ob')/\(∀f:Nat->Option AObj,f b=some ob'->c8 f b=some (l.set (o+21) L'))/\∀cs e,ob=.cells cs e->ob'=.cells (l.set (o+21) L') e/\cs=l:=by
  unfold c8 at e3;cases ho:h.objs.get b with
  |none=>rw[ho]at e3;cases e3
  |some ob=>
   rw[ho]at e3;cases ob with
   |cells l0 e0=>
    obtain rfl:l0=l:=ab e3;exact⟨_,.cells (l0.set (o+21) L') e0,rfl,by simp only[dA,ht,hc,jL rfl,bf,ho,hsp,af,au,aw],λf hf=>by unfold c8;rw[hf],λcs e he=>by cases he;exact⟨rfl,rfl⟩⟩
   |row l0 a0 a1 a2 a3=>
    obtain rfl:l0=l:=ab e3;exact⟨_,.row (l0.set (o+21) L') a0 a1 a2 a3,rfl,by simp only[dA,ht,hc,jL rfl,bf,ho,hsp,af,au,aw],λf hf=>by unfold c8;rw[hf],λcs e he=>by cases he⟩
   |_=>cases e3
 obtain⟨ob,ob',g0,g2,g3,g4⟩:=hob;have hup:∀c,c≠b->(h.upd b ob').objs.get c=h.objs.get c:=λc hc=>cl hc;have hub:(h.upd b ob').objs.get b=some ob':=cA;have hZ:∀b,D b->¬Z.objs.get b≠none:=λb hb=>(h1 b hb).1;have hnd:∀q∈(S1++S2).map Prod.fst++C.map Prod.fst,q≠.ptr b o:=by
  intro q hy e;subst e;rw[aH,ax,aC,List.cons_append]at h3;have h6:=List.nodup_append.1 h3;rw[aH,aC]at hy;rcases List.mem_append.1 hy with hy|hy
  .exact h6.2.2 _ hy _ (ak ..) rfl
  .exact(List.nodup_cons.1 h6.2.1).1 hy
 have hwin:∀o1 y L,o1≠o->cut l o1 22=some (ND.cells y L)->cut (l.set (o+21) L') o1 22=some (ND.cells y L):=λo1 y L hne k4=>by
  rcases ui e6.1 e4 k4 with e|e|e
  .exact absurd e hne
  .rw[ju (.inl e)];exact k4
  .rw[ju (.inr bj)];exact k4
 have hpend:∀y∈S1++S2,PendAt Γ Z D (h.upd b ob') y.1 y.2:=by
  intro y hy;obtain⟨b1,o1,l1,x1,K1,ks1,k1,k2,k3,k4,k5,k6⟩:=h5 y (by
   rcases List.mem_append.1 hy with hy|hy
   .exact aK _ hy
   .exact aO _ (am _ hy))
  by_cases hb:b1=b
  .subst hb;obtain rfl:l=l1:=ab (e3.symm.trans k3);have hne:o1≠o:=λe=>hnd y.1 (aK _ (List.mem_map.2 ⟨y,hy,rfl⟩)) (by rw[k1,e]);exact⟨b1,o1,_,x1,K1,ks1,k1,k2,g3 _ hub,hwin o1 x1 K1 hne k4,k5,k6⟩
  .exact⟨b1,o1,l1,x1,K1,ks1,k1,k2,by unfold c8 at k3⊢;rw[hup b1 hb];exact k3,k4,k5,k6⟩
 have hf:c8 (fV Z D h) b=some l:=by
  unfold c8 at e3⊢;rw[xc e2];exact e3
 have hg:c8 (fV Z D (h.upd b ob')) b=some (l.set (o+21) L'):=g3 _ (by rw[xc e2];exact hub);have hfg:∀c,c≠b->fV Z D (h.upd b ob') c=fV Z D h c:=λc hc=>by
  unfold fV;by_cases hdc:D c
  .rw[bi hdc,bi hdc];exact hup c hc
  .rw[bh hdc,bh hdc]
 have hT:TreeV Γ (fV Z D h) (.ptr b o) ⟨x,ks⟩:=(h5 (.ptr b o,Tr.mk x ks) (by simp)).tree hZ;have hkid:∀i t,ks[i]? =some t->TreeV Γ (fV Z D (h.upd b ob')) (q' i) t:=λi t hit=>by
  rcases hq i t hit with hm|hm
  .exact(hpend _ hm).tree hZ
  .refine xE hf (λc hc v hv=>by rw[hfg c hc];exact hv) e4 (λq y L hne hcu=>⟨_,hg,hwin q y L hne hcu⟩) hT (h2 _ hm) ?_;have:=m9 hit;rw[fa];omega
 refine⟨h.upd b ob',g2,av _,λc w hw=>?_,λc w hw=>s.zlt c w hw,D,h1,⟨λy hy=>DG hf hg hfg e4 hT hl hi hkid (h2 y hy),λy hy=>?_,?_,hpend,λy hy=>?_⟩,gZ (h:=h) (av _) (λc _ hc=>?_) h4⟩
 .by_cases hcb:c=b
  .subst hcb;exact absurd (show Z.objs.get c≠none by rw[hw];simp) (hZ c e2)
  .rw[hup c hcb];exact s.frz c w hw
 .obtain⟨⟨b1,y1,K1,k1,k2,k3,k4,k5⟩,kR⟩:=hO y hy;refine⟨?_,kR⟩;by_cases hb:b1=b
  .subst hb;obtain rfl:=ab (g0.symm.trans k3);obtain⟨q1,q2⟩:=g4 _ _ rfl;subst q2;have ho:o=0:=by
    have:o+22<=(ND.cells y1 K1).length:=hlen;rw[HE]at this;omega
   subst ho;have ex:y1=x:=(jP (show ND.cells y1 K1=ND.cells x K from by
    have:cut (ND.cells y1 K1) 0 22=some (ND.cells y1 K1):=rfl;exact ab (this.symm.trans e4))).1
   have hyt:y.2=Tr.mk x ks:=(TreeV.uniq hT (by have:=h2 y kR;rw[k1]at this;exact this)).symm;exact⟨b1,y1,L',k1,k2,by rw[hub,q1];rfl,k4,λhc2=>by rw[hyt];exact hn hc2⟩
  .exact⟨b1,y1,K1,k1,k2,by rw[hup b1 hb];exact k3,k4,k5⟩
 .rw[aH,ax,aC,List.cons_append]at h3;rw[aH,aC];refine(List.Perm.nodup_iff ?_).1 h3;refine List.Perm.append_left _ ?_;rw[ax];exact List.perm_middle.symm
 .rcases aD.1 hy with rfl|hy2
  .exact⟨b,o,_,x,rfl,e2,g3 _ hub,qq e4⟩
  .obtain⟨b1,o1,l1,x1,k1,k2,k3,k4⟩:=hC y hy2;by_cases hb:b1=b
   .subst hb;obtain rfl:l=l1:=ab (e3.symm.trans k3);have hne:o1≠o:=λe=>hnd y.1 (aO _ (List.mem_map.2 ⟨y,hy2,rfl⟩)) (by rw[k1,e]);exact⟨b1,o1,_,x1,k1,k2,g3 _ hub,hwin o1 x1 y.2 hne k4⟩
   .exact⟨b1,o1,l1,x1,k1,k2,by unfold c8 at k3⊢;rw[hup b1 hb];exact k3,k4⟩
 .exact hup c λe=>hc (.inr (e▸e2))
end
section
variable {Γ:Glob}{Z h:Hp}{m:List Asrt}{K:SV}{T:Tr}{O R S:List (SV×Tr)}{C:List (SV×SV)}{b c:Nat}{x:ND}{ks:List Tr}
theorem Ge{o:AObj}{cs:List SV}{es:List (ND×SV)}{ts:List Tr}(hcl:∀f:Nat->Option AObj,f b=some o->c8 f b=some cs)(hcs:cs.take (es.length*22)=es.flatMap em)(w:NodesOk Γ Z es ts)(s:St Z (own b o::hgA Γ c O R S C::m) h):St Z (hgA Γ c O R (S++dU b ts) C::m) h:=by
 obtain⟨D1,a1,⟨d1,d2⟩,D2,b1,⟨t1,tO,t2,t3,tC⟩,m4⟩:=s.sep;have hD1:D1 b:=(d1 b).2 rfl;have hsub:uW (fV Z D2 h) (fV Z (λc=>D1 c\/D2 c) h):=λc x e=>by
  unfold fV at e⊢;by_cases h2:D2 c
  .rw[bi h2]at e;rw[bi (.inr h2)];exact e
  .rw[bh h2]at e;have h3:¬(D1 c\/D2 c):=λhh=>hh.elim (λhh=>(a1 c hh).1 (show Z.objs.get c≠none by rw[e];simp)) h2;rw[bh h3];exact e
 have hpS:∀q∈S.map Prod.fst++C.map Prod.fst,∃b' o',q=.ptr b' o'/\D2 b':=λq hq=>by
  rcases List.mem_append.1 hq with hq|hq
  .obtain⟨y,hy,rfl⟩:=List.mem_map.1 hq;obtain⟨b',o',_,_,_,_,k1,k2,_⟩:=t3 y hy;exact⟨b',o',k1,k2⟩
  .obtain⟨y,hy,rfl⟩:=List.mem_map.1 hq;obtain⟨b',o',_,_,k1,k2,_⟩:=tC y hy;exact⟨b',o',k1,k2⟩
 refine⟨s.frz,s.zlt,λc=>D1 c\/D2 c,λc hc=>hc.elim (λhc=>a1 c hc) λhc=>⟨λhu=>(b1 c hc).1 (.inl hu),(b1 c hc).2⟩,⟨λy hy=>(t1 y hy).sub hsub,λy hy=>?_,?_,λy hy=>?_,λy hy=>?_⟩,db (λc hc=>?_) m4⟩
 .obtain⟨⟨b1,y1,K1,k1,k2,k3⟩,kR⟩:=tO y hy;exact⟨⟨b1,y1,K1,k1,.inr k2,k3⟩,kR⟩
 .rw[aH,aC];refine(List.Perm.nodup_iff (List.Perm.append_left _ List.perm_append_comm)).1 ?_;rw[<-aC];refine List.nodup_append.2 ⟨t2,Ee b ts,λp hp q hq e=>?_⟩;obtain⟨z,hz,rfl⟩:=List.mem_map.1 hq;obtain⟨b',o',k1,k2⟩:=hpS p hp;obtain⟨i,_,k3⟩:=Cq hz;rw[k1,k3]at e;cases e;exact(b1 b k2).1 (.inr hD1)
 .rcases List.mem_append.1 hy with hy|hy
  .obtain⟨b',o',l,x,K,ks,k1,k2,k3⟩:=t3 y hy;exact⟨b',o',l,x,K,ks,k1,.inr k2,k3⟩
  .obtain⟨i,hi,k1⟩:=Cq hy;have hlt:i<es.length:=by rw[w.1];exact(List.getElem?_eq_some_iff.1 hi).1
   have he:es[i]? =some es[i]:=aB hlt;have h2:=w.2 i _ _ he hi;refine⟨b,i*22,cs,y.2.nd,es[i].2,y.2.kids,k1,.inl hD1,hcl _ d2,?_,by cases y.2;rfl,h2.2⟩;rw[<-h2.1];exact uC he hcs
 .obtain⟨b',o',l,x,k1,k2,k3⟩:=tC y hy;exact⟨b',o',l,x,k1,.inr k2,k3⟩
 .rcases hc with hc|hc
  .exact .inl (.inl hc)
  .exact hc.elim (λhc=>.inl (.inr hc)) .inr
theorem BK{v:SV}{ts:List Tr}(s:St Z (nlA Γ v ts::hgA Γ c O R S C::m) h):∃B:Nat,LiAt v B ts.length/\St Z (hgA Γ c O R (S++dU B ts) C::m) h:=by
 obtain⟨es,w,s⟩:=jK.1 s;rcases(dR s).2 with⟨rfl,hn,s1⟩|⟨b,o,hb,hlt,⟨cs,⟨c,rfl,_,_,ho,_⟩|⟨k,rfl,_,ho,_⟩,hc⟩,s1⟩
 .have:ts=[]:=by
   have:=w.1;rw[List.map_eq_nil_iff.1 hn]at this;exact List.length_eq_zero_iff.1 this.symm
  subst this;refine⟨0,⟨gK,λi hi=>absurd hi (Nat.not_lt_zero i)⟩,?_⟩;rw[show dU 0 []=[]from rfl,List.append_nil];exact s1
 .obtain rfl:=ab ho;rw[ao]at hc⊢;refine⟨b,⟨by rw[<-w.1];exact jq b _ c,by rw[<-w.1];exact jv b _ c⟩,?_⟩;exact Ge (es:=es) (cs:=cs) (λf hf=>by unfold c8;rw[hf]) (by rw[hc,eT]) w s1
 .obtain rfl:=ab ho;rw[ao]at hc⊢;refine⟨b,⟨by rw[<-w.1];exact ov b _ k,by rw[<-w.1];exact oB b _ k⟩,?_⟩;exact Ge (es:=es) (cs:=cs) (λf hf=>by unfold c8;rw[hf]) (by rw[hc,eT]) w s1
theorem Mz(s:St Z m h):St Z (hgA Γ c [] [] [] []::m) h:=
 ⟨s.frz,s.zlt,λ_=>False,λ_ hx=>hx.elim,⟨(λy hy=>by cases hy),(λy hy=>by cases hy),List.nodup_nil,(λy hy=>by cases hy),(λy hy=>by cases hy)⟩,db (λ_ hx=>hx.resolve_right id) s.sep⟩
theorem Jx(s:St Z (hgA Γ c O R S C::m) h):St Z (hgA Γ c O (R++S) S C::m) h:=by
 obtain⟨D,h1,⟨h2,h3,h5,h6,h7⟩,h4⟩:=s.sep;refine⟨s.frz,s.zlt,D,h1,⟨λy hy=>?_,λy hy=>⟨(h3 y hy).1,aK _ (h3 y hy).2⟩,h5,h6,h7⟩,h4⟩;exact(List.mem_append.1 hy).elim (h2 y) λhy=>(h6 y hy).tree λb hb=>(h1 b hb).1
theorem JM{v:SV}{ts:List Tr}(s:St Z (nlA Γ v ts::m) h):∃B:Nat,True/\St Z (hgA Γ 0 [] (dU B ts) (List.drop (Int.toNat 0) (dU B ts)) []::liA v B ts::m) h:=by
 obtain⟨B,w,s⟩:=BK (c:=0) (Mz s).rot1;exact⟨B,trivial,St.rot1 (cX.2 ⟨w,Jx s⟩)⟩
theorem G2{c2:Nat}{R2:List (SV×Tr)}(s:St Z (hgA Γ c O R S C::hgA Γ c2 [] R2 [] []::m) h):St Z (hgA Γ c O (R++R2) S C::m) h:=by
 obtain⟨D1,a1,⟨t1,tO,t2,t3,tC⟩,D2,b1,⟨u1,_⟩,m4⟩:=s.sep;have hsub1:uW (fV Z D1 h) (fV Z (λc=>D1 c\/D2 c) h):=λc x e=>by
  unfold fV at e⊢;by_cases h1:D1 c
  .rw[bi h1]at e;rw[bi (.inl h1)];exact e
  .rw[bh h1]at e;rw[bh λhh=>hh.elim h1 λhh=>(b1 c hh).1 (.inl (show Z.objs.get c≠none by rw[e];simp))];exact e
 have hsub2:uW (fV Z D2 h) (fV Z (λc=>D1 c\/D2 c) h):=λc x e=>by
  unfold fV at e⊢;by_cases h2:D2 c
  .rw[bi h2]at e;rw[bi (.inr h2)];exact e
  .rw[bh h2]at e;rw[bh λhh=>hh.elim (λhh=>(a1 c hh).1 (show Z.objs.get c≠none by rw[e];simp)) h2];exact e
 refine⟨s.frz,s.zlt,λc=>D1 c\/D2 c,λc hc=>hc.elim (λhc=>a1 c hc) λhc=>⟨λhu=>(b1 c hc).1 (.inl hu),(b1 c hc).2⟩,⟨λy hy=>(List.mem_append.1 hy).elim (λhy=>(t1 y hy).sub hsub1) λhy=>(u1 y hy).sub hsub2,λy hy=>?_,t2,λy hy=>?_,λy hy=>?_⟩,db (λc hc=>?_) m4⟩
 .obtain⟨⟨b1,y1,K1,k1,k2,k3⟩,kR⟩:=tO y hy;exact⟨⟨b1,y1,K1,k1,.inl k2,k3⟩,aK _ kR⟩
 .obtain⟨b',o',l,x,K,ks,k1,k2,k3⟩:=t3 y hy;exact⟨b',o',l,x,K,ks,k1,.inl k2,k3⟩
 .obtain⟨b',o',l,x,k1,k2,k3⟩:=tC y hy;exact⟨b',o',l,x,k1,.inl k2,k3⟩
 .rcases hc with hc|hc
  .exact .inl (.inl hc)
  .exact hc.elim (λhc=>.inl (.inr hc)) .inr
theorem HN{R2:List (SV×Tr)}(hO:∀y∈O,y∈R)(s:St Z (hgA Γ c O (R++R2) S C::m) h):St Z (hgA Γ c O R S C::m) h:=by
 obtain⟨D,h1,⟨h2,h3,h5,h6,h7⟩,h4⟩:=s.sep;exact⟨s.frz,s.zlt,D,h1,⟨λy hy=>h2 y (aK _ hy),λy hy=>⟨(h3 y hy).1,hO y hy⟩,h5,h6,h7⟩,h4⟩
theorem zb{v:SV}(w:NilK v ks):NilK (oneS v) ks:=⟨λe=>by rw[cm (iZ v).1 (iZ v).2];exact w.e e⟩
theorem nq{B:Nat}{ts:List Tr}{i:Int}(h0:0<=i)(h1:i<(ts.length:Int)):List.drop i.toNat (dU B ts)=(ip B i,lget ts i)::List.drop (i+1).toNat (dU B ts):=by
 have hl:(dU B ts).length=ts.length:=by unfold dU;rw[ao,List.length_zipIdx]
 have h2:(dU B ts)[i.toNat]? =some (ip B i,lget ts i):=by
  unfold dU ip;rw[aV,List.getElem?_zipIdx,dG h0 h1];simp
 obtain⟨hlt,he⟩:=List.getElem?_eq_some_iff.1 h2;rw[List.drop_eq_getElem_cons hlt,he,show(i+1).toNat=i.toNat+1 by omega]
theorem IJ{B:Nat}{ts:List Tr}{i:Int}(h1:(ts.length:Int)<=i):List.drop i.toNat (dU B ts)=[]:=by
 have hl:(dU B ts).length=ts.length:=by unfold dU;rw[ao,List.length_zipIdx]
 exact List.drop_eq_nil_of_le bj
theorem jT{S:List (SV×Tr)}{i:Int}(h0:0<=i)(h1:i<(S.length:Int)):((lget S i).1,(lget S i).2)∈S:=fz (L:=S) h0 h1
theorem qg{B:Nat}{ST:List (SV×Tr)}{ts:List Tr}{i:Int}(h0:0<=i)(h1:i<(ts.length:Int)):(ip B i,lget ts i)∈ST++List.drop i.toNat (dU B ts):=by
 rw[nq h0 h1];exact aO _ (ak ..)
theorem xy{α:Type}[Inhabited α]{L:List α}{i:Int}(h0:0<=i)(h:i=(L.length:Int)-1):L=L.take i.toNat++lget L i::[]:=by
 rw[<-eh h0 bj,List.take_of_length_le bj]
theorem Mw{v:SV}{t:TypeId}{i:Int}(ht:bI Tryz.prog t=some 1)(h0:0<=i)(he:i=(S.length:Int)-1)(hn:2<=c->NilK v (lget S i).2.kids)(s:St Z (hgA Γ c O R S []::nlA Γ (oneS v) (lget S i).2.kids::m) h):
 ∃(B:Nat) (H:Hp),mi (dA Tryz.prog h t (gA (oneS (lget S i).1) 21) (oneS v))=some [(.lit undef,H)]/\h.next<=H.next/\True/\St Z (hgA Γ c O R (List.take (Int.toNat i) S++List.drop (Int.toNat 0) (dU B (lget S i).2.kids)) (wt (lget S i).1 v)::liA (oneS v) B (lget S i).2.kids::m) H:=by
 obtain⟨B,hq,s1⟩:=BK s.rot1;have e:S++dU B (lget S i).2.kids=List.take i.toNat S++((lget S i).1,Tr.mk (lget S i).2.nd (lget S i).2.kids)::dU B (lget S i).2.kids:=by
  rw[EP];generalize dU B (lget S i).2.kids=A
  conv=>lhs;rw[xy h0 he]
  rw[aC];rfl
 obtain⟨H,e1,e2,e3⟩:=mT (q':=λi=>.ptr B (i*22)) ht hq.l hq.i (CN hq.l) (λh=>zb (hn h)) (λi t hi=>.inl (aO _ (Cb hi))) (zp e s1);exact⟨B,H,by rw[e1];rfl,e2,trivial,St.rot1 (cX.2 ⟨hq,e3⟩)⟩
theorem J7{B:Nat}{ST:List (SV×Tr)}{ts:List Tr}{t:TypeId}{i:Int}(ht:bI Tryz.prog t=some 1)(h0:0<=i)(h1:i<(ts.length:Int))(hk:(lget ts i).kids.length=(0:Int))(s:St Z (hgA Γ c O R (ST++List.drop (Int.toNat i) (dU B ts)) C::m) h):
 ∃(_:Unit) (H:Hp),mi (dA Tryz.prog h t (gA (oneS (ip B i)) 21) (.lit (.slice none 0 0)))=some [(.lit undef,H)]/\h.next<=H.next/\True/\St Z (hgA Γ c O R (ST++List.drop (Int.toNat (i+1)) (dU B ts)) C::m) H:=by
 have hk0:(lget ts i).kids=[]:=List.length_eq_zero_iff.1 bj;have e:ST++List.drop (Int.toNat i) (dU B ts)=ST++(ip B i,Tr.mk (lget ts i).nd [])::List.drop (i+1).toNat (dU B ts):=by rw[nq h0 h1,<-hk0,EP]
 obtain⟨H,e1,e2,e3⟩:=mT (ks:=[]) (q':=λ_=>.lit .nilIface) ht gK (λi hi=>absurd hi (Nat.not_lt_zero i)) rfl (λ_=>⟨λ_=>cm rfl (by simp[SV.same,dr])⟩) (λi t hi=>by simp at hi) (zp e s);exact⟨(),H,by rw[e1];rfl,e2,trivial,mR (List.Sublist.refl _) (List.sublist_cons_self ..) e3⟩
theorem JC{B:Nat}{ST:List (SV×Tr)}{ts:List Tr}{i:Int}(h0:0<=i)(h1:i<(ts.length:Int))(s:St Z (hgA Γ c O R (ST++List.drop (Int.toNat i) (dU B ts)) C::m) h):St Z (hgA Γ c O R ((ST++[(ip B i,lget ts i)])++List.drop (Int.toNat (i+1)) (dU B ts)) C::m) h:=
 zp (by rw[nq h0 h1,aC];rfl) s
theorem LX{B:Nat}{ST:List (SV×Tr)}{ts:List Tr}{i:Int}(h1:(ts.length:Int)<=i)(s:St Z (hgA Γ c O R (ST++List.drop (Int.toNat i) (dU B ts)) C::m) h):St Z (hgA Γ c O R ST []::m) h:=
 mR (List.Sublist.refl _) (List.nil_sublist _) (zp (by rw[IJ h1,List.append_nil]) s)
theorem CJ(s:St Z (hgA Γ c [(.ptr b 0,⟨x,ks⟩)] R S C::m) h):∃Z',Sub Z Z'/\∃K:SV,(2<=c->NilK K ks)/\St Z' (own b (.cells (x.cells (oneS K)) 85)::br Γ (oneS K) ks::m) h:=by
 obtain⟨D,h1,⟨h2,hO,_⟩,h4⟩:=s.sep;obtain⟨⟨b',x',K,k1,k2,k3,k4,k5⟩,kR⟩:=hO _ (List.mem_singleton.2 rfl);cases k1;obtain rfl:x=x':=k4;have hZ:∀b,D b->¬Z.objs.get b≠none:=λb hb=>(h1 b hb).1;have hz:∀n:Nat,∃Zn:Hp,Zn.next=Nat.max Z.next h.next/\∀c o,Zn.objs.get c=some o↔(Z.objs.get c=some o\/((D c/\c≠b)/\c<n/\h.objs.get c=some o)):=by
  intro n
  induction n with
  |zero=>exact⟨⟨Z.objs,Nat.max Z.next h.next⟩,rfl,λb o=>⟨.inl,λhh=>hh.elim id λhh=>absurd hh.2.1 (Nat.not_lt_zero _)⟩⟩
  |succ n ih=>
   obtain⟨Zn,e1,e2⟩:=ih;by_cases hn:D n/\n≠b
   .cases ho:h.objs.get n with
    |none=>
     refine⟨Zn,e1,λb o=>(e2 b o).trans (or_congr Iff.rfl ⟨λhh=>⟨hh.1,by omega,hh.2.2⟩,λhh=>⟨hh.1,?_,hh.2.2⟩⟩)⟩;by_cases hb:b=n
     .rw[hb,ho]at hh;cases hh.2.2
     .omega
    |some x=>
     refine⟨⟨Zn.objs.set n x,Zn.next⟩,e1,λb o=>?_⟩;by_cases hb:b=n
     .subst hb;show(Zn.objs.set b x).get b=some o↔_;rw[cA,ho];refine⟨λhh=>.inr ⟨hn,aq _,hh⟩,λhh=>hh.elim (λhh=>absurd (show Z.objs.get b≠none by rw[hh];simp) (h1 b hn.1).1) λhh=>hh.2.2⟩
     .show(Zn.objs.set n x).get b=some o↔_;rw[cl hb];exact(e2 b o).trans (or_congr Iff.rfl ⟨λhh=>⟨hh.1,by omega,hh.2.2⟩,λhh=>⟨hh.1,by omega,hh.2.2⟩⟩)
   .refine⟨Zn,e1,λb o=>(e2 b o).trans (or_congr Iff.rfl ⟨λhh=>⟨hh.1,by omega,hh.2.2⟩,λhh=>⟨hh.1,?_,hh.2.2⟩⟩)⟩;by_cases hb:b=n
    .rw[hb]at hh;exact absurd hh.1 hn
    .omega
 obtain⟨Z',e1,e2⟩:=hz h.next;have zz:Sub Z Z':=⟨by rw[e1];exact Nat.le_max_left _ _,λb o hb=>(e2 b o).2 (.inl hb)⟩;have hlt:∀b o,Z'.objs.get b=some o->b<h.next:=λb o hb=>((e2 b o).1 hb).elim (λhh=>s.zlt b o hh) λhh=>hh.2.1;have hbZ:¬Z'.objs.get b≠none:=λhh=>by
  cases hb':Z'.objs.get b with
  |none=>exact hh hb'
  |some o=>
   rcases(e2 b o).1 hb' with hh|hh
   .exact hZ b k2 (show Z.objs.get b≠none by rw[hh];simp)
   .exact hh.1.2 rfl
 have hbf:c8 (fV Z D h) b=some (x.cells K):=by
  unfold c8;rw[xc k2,k3]
 have hcut:cut (x.cells K) 0 22=some (x.cells K):=rfl;have hT:=h2 _ kR;have hK:KidsOf Γ Z' K ks:=by
  have hT':TreeV Γ (fV Z D h) (.ptr b 0) ⟨x,ks⟩:=hT;cases hT with
  |@mk _ y L js q h1' h2' h3' h4'=>
   have hp:PtrV Γ (fV Z D h) (.ptr b 0) (x.cells K):=.inl ⟨b,0,rfl,x.cells K,hbf,hcut⟩;have hc:x.cells L=x.cells K:=PtrV.uniq (by rfl) h1' hp;obtain⟨_,rfl⟩:=jP hc;refine⟨h2',q,h3',λi t hi=>TreeV.toAt (λb o hb=>aM (hlt b o hb) (by rw[e1];exact Nat.le_max_right _ _)) ?_⟩;refine xE hbf (λc hc v hv=>(e2 c v).2 ?_) hcut (λq y L hne hcu=>?_) hT' (h4' i t hi) ?_
   .unfold fV at hv;by_cases hd:D c
    .rw[bi hd]at hv;exact .inr ⟨⟨hd,hc⟩,(h1 c hd).2,hv⟩
    .rw[bh hd]at hv;exact .inl hv
   .exfalso;have:=(dg.1 hcu).2;rw[aL,aR,HE]at this;omega
   .have:=m9 hi;rw[fa];omega
 have eK:oneS K=K:=cm hK.1.1 hK.1.2.1;rw[<-eK]at k3 hK;refine⟨Z',zz,K,k5,?_⟩;refine St.rot1 (cX.2 ⟨hK,λb o hb=>((e2 b o).1 hb).elim (λhh=>s.frz b o hh) λhh=>hh.2.2,hlt,λc=>c=b,λc hc=>?_,⟨λc=>Iff.rfl,k3⟩,ni zz (db (λc hc=>?_) h4)⟩)
 .rw[hc];exact⟨hbZ,(h1 b k2).2⟩
 .rcases hc with hc|rfl
  .cases hb':Z'.objs.get c with
   |none=>exact absurd hb' hc
   |some o=>
    rcases(e2 c o).1 hb' with hh|hh
    .exact .inl (show Z.objs.get c≠none by rw[hh];simp)
    .exact .inr hh.1.1
  .exact .inr k2
theorem Mj{B:Nat}{p v:SV}{t:Tr}{ty:TypeId}{i:Int}(ht:bI Tryz.prog ty=some 1)(hc:c<=1)(hi:(t.kids.length:Int)<=i)(hO:∀y∈O,y∈R)(s:St Z (hgA Γ c O R ((p,t)::S) C::hgA Γ 0 [] (dU B t.kids) (List.drop (Int.toNat i) (dU B t.kids)) []::liA (oneS v) B t.kids::m) h):
 ∃(_:Unit) (H:Hp),mi (dA Tryz.prog h ty (gA (oneS p) 21) (oneS v))=some [(.lit undef,H)]/\h.next<=H.next/\True/\St Z (hgA Γ c O R S C::m) H:=by
 obtain⟨hv,s0⟩:=cX.1 s.rot2;have s1:=G2 (mR (List.nil_sublist _) (List.Sublist.refl _) s0.rot1).rot1;obtain⟨x,ks⟩:=t;obtain⟨H,e1,e2,e3⟩:=mT (S1:=[]) (q':=λi=>.ptr B (i*22)) ht hv.l hv.i (CN hv.l) (λh=>absurd h bj) (λi t hi=>.inr (aO _ (Cb hi))) s1;exact⟨(),H,by rw[e1];rfl,e2,trivial,HN hO (mR (List.Sublist.refl _) (List.sublist_cons_self ..) e3)⟩
theorem IM{p:SV}{t:Tr}{ty:TypeId}(ht:bI Tryz.prog ty=some 1)(hk:(t.kids.length:Int)=0)(s:St Z (hgA Γ c O R ((p,t)::S) C::m) h):
 ∃(_:Unit) (H:Hp),mi (dA Tryz.prog h ty (gA (oneS p) 21) (.lit (.slice none 0 0)))=some [(.lit undef,H)]/\h.next<=H.next/\True/\St Z (hgA Γ c O R S C::m) H:=by
 obtain⟨x,ks⟩:=t;obtain rfl:ks=[]:=List.length_eq_zero_iff.1 (by exact_mod_cast hk);obtain⟨H,e1,e2,e3⟩:=mT (S1:=[]) (ks:=[]) (q':=λ_=>.lit .nilIface) ht gK (λi hi=>absurd hi (Nat.not_lt_zero i)) rfl (λ_=>⟨λ_=>cm rfl (by simp[SV.same,dr])⟩) (λi t hi=>by simp at hi) s;exact⟨(),H,by rw[e1];rfl,e2,trivial,mR (List.Sublist.refl _) (List.sublist_cons_self ..) e3⟩
theorem I5{B:Nat}{ts:List Tr}{i:Int}(h0:0<=i)(h1:i<(ts.length:Int))(s:St Z (hgA Γ c O R (List.drop (Int.toNat i) (dU B ts)) C::m) h):St Z (hgA Γ c O R ((ip B i,lget ts i)::List.drop (Int.toNat (i+1)) (dU B ts)) C::m) h:=
 zp (nq h0 h1) s
theorem wi{t:TypeId}{v:SV}{B:Nat}{ts:List Tr}{i:Int}(ht:t=83)(h0:0<=i)(h1:i<(ts.length:Int))(s:St Z (liA (oneS v) B ts::m) h):True/\∃fs:List Fact,one (bT Tryz.prog t (oneS v) (iV i))=some (oneS (ip B i),fs):=by
 obtain⟨w,_⟩:=cX.1 s;obtain⟨k,rfl⟩:=Int.eq_ofNat_of_zero_le h0;subst ht;have e:bT Tryz.prog 83 (oneS v) (.lit (.int .i64 (Int.ofNat k)))=some (.ptr B (k*22)):=w.i k bj;refine⟨trivial,[],?_⟩;show one (bT Tryz.prog 83 (oneS v) (.lit (.int .i64 (Int.ofNat k))))=_;rw[e];show _=some (oneS (.ptr B (k*22)),[]);rw[bP];rfl
theorem Ls{t:TypeId}{v:SV}{B:Nat}{ts:List Tr}(ht:t=83)(s:St Z (liA (oneS v) B ts::m) h):True/\∃fs,gy Tryz.prog h t (oneS v)=some (iV (ts.length:Int),fs):=by
 subst ht;exact⟨trivial,[],(cX.1 s).1.l.2.2.1 h⟩
end
def hpE:SV×Tr->List SV:=λy=>[oneS y.1]
theorem GY(y:SV×Tr):(hpE y).length=1/\(hpE y).all SV.one=true:=⟨rfl,by simp only[hpE,al,List.all_nil,(iZ _).1,aF]⟩
theorem II{Z h:Hp}{m:List Asrt}{b b2:Nat}{T:Tr}{e:TypeId}(s:St Z (own b2 (.cells [.ptr b 0] e)::m) h):St Z (lsA e 1 hpE (.slice b2 0 1 1) [(.ptr b 0,T)]::m) h:=
 iU (λx _=>GY x) rfl (by show[SV.ptr b 0]=[oneS (.ptr b 0)];rw[bP]) (by decide) s
abbrev zy0:List MI:=[.asr 14,.asr 12,.asr 9,.asr 13,.asr 15,.blk 1 [Fd,Fd,Fd,Fd,.txt (.tl []),TA,Fd,.txt (.tl []),Fd,Fd,Fd,Fd,TA,TA,Fd,Fd,Fd,Fd,TA,TA,Fd,.lit mt] 85]
abbrev zy1:List MI:=[.asr 5,.asr 6,.asr 4,.blk 1 [Fd,Fd,Fd,Fd,.txt (.tl []),TA,Fd,.txt (.tl []),Fd,Fd,Fd,Fd,TA,TA,Fd,Fd,Fd,Fd,TA,TA,Fd,.lit mt] 85]
abbrev zy3:List XV:=(nX 15 2 5 (.raw 2))
abbrev zy5:List (Nat×XV):=[(1,.ptr 0 0),(2,.ptr 1 0),(3,.raw 8),(4,.raw 3),(33,vI 17),(34,vI 18)]
abbrev zy6:List (Nat×XV):=[(1,.ptr 0 0),(2,.ptr 1 0),(3,.raw 1)]
theorem Ky0{P:Prop}(h:P:=by first|with_reducible exact Nd hz|first|omega|(and_intros<;>intros<;>and_intros<;>first|omega|assumption|with_reducible exact zb hn|(have w1:=lw S;omega)|(simp only[stkM,fa];omega)|with_reducible exact IP hi.2 bj bj (by assumption) (av 2)|(intro _;assumption)|with_reducible exact Mo hi.2 bj|with_reducible exact Ec hi.2.2.2.2 bj bj bj|with_reducible exact C5 hi.2.2.2.2 bj bj|with_reducible exact hi.2.2.2.2.a|(have w1:=DZ hi.2.2.2.2;have w2:=lw ST;omega)|(have w1:=F9 hi.2.2.2.2;omega)|(have w1:=DX (S:=S) bj;omega)|exact V1)):P:=h
theorem GI:gC Tryz.prog 144 1:=by
 have h:(Tryz.prog.info? 144).isSome=true:=bm;obtain⟨i,hi⟩:=Option.isSome_iff_exists.1 h;have h2:((Tryz.prog.info? 144).bind (·.zero)).isSome=true:=bm;rw[hi]at h2;obtain⟨z,hz⟩:=Option.isSome_iff_exists.1 h2;have h3:((Tryz.prog.info? 144).map λi=>Nat.beq i.size 1&&(Nat.ble i.bytes 1000&&(i.zero.map λz=>Nat.beq (SV.cells (.lit z)).length 1).getD false))=some true:=bm;have hz':i.zero=some z:=hz;rw[hi,af,hz',af,Option.getD_some,a7,a8,a8]at h3;exact⟨i,z,hi,hz',aj h3.1,aG h3.2.1,aj h3.2.2⟩
def stkM:List (SV×Tr)->Int
 |[]=>0
 |y::l=>(y.2.size:Int)+stkM l
theorem qP:∀a b:List (SV×Tr),stkM (a++b)=stkM a+stkM b
 |[],b=>by simp[stkM]
 |y::l,b=>by rw[List.cons_append,stkM,stkM,qP l b];omega
theorem lw:∀l:List (SV×Tr),(l.length:Int)<=stkM l
 |[]=>by simp[stkM]
 |y::l=>by
  have h1:=lw l;have h2:=size_eq y.2;rw[stkM,au];omega
structure CopI(r:SV×Tr)(S:List (SV×Tr)):Prop where
 a:∀y∈S,y.2.kids≠[]\/y=r
structure CopJ(r:SV×Tr)(S ST:List (SV×Tr))(ix:Int):Prop where
 a:CopI r ST
 m:stkM ST+(sizeL ((lget S ((S.length:Int)-1)).2.kids.drop ix.toNat):Int)+1<=stkM S
section
variable {r:SV×Tr}{S ST:List (SV×Tr)}{ix:Int}
theorem OX:CopI r [r]:=⟨λy hy=>.inr (List.mem_singleton.1 hy)⟩
theorem Nd{p:SV}{x:ND}{ks:List Tr}(h:(sizeL ks:Int)<=1000000):stkM [(p,Tr.mk x ks)]<=1000001/\CopI (p,Tr.mk x ks) [(p,Tr.mk x ks)]:=⟨by simp only[stkM,fa];omega,OX⟩
theorem IP{c:Nat}{K:SV}{i:Int}(w:CopI r S)(h0:0<=i)(h1:i<(S.length:Int))(k:((lget S i).1,(lget S i).2)∈[r]->2<=c->NilK K (lget S i).2.kids)(hc:2<=c):NilK K (lget S i).2.kids:=by
 rcases w.a _ (fz h0 h1)with h|h
 .exact⟨λe=>absurd e h⟩
 .exact k (List.mem_singleton.2 h) hc
theorem y5(h:0<(S.length:Int)):stkM S=stkM (List.take (Int.toNat ((S.length:Int)-1)) S)+((lget S ((S.length:Int)-1)).2.size:Int):=by
 conv=>lhs;rw[xy (L:=S) (i:=(S.length:Int)-1) bj rfl]
 rw[qP];simp[stkM]
theorem Mo(w:CopI r S)(h:0<(S.length:Int)):CopJ r S (List.take (Int.toNat ((S.length:Int)-1)) S) 0:=by
 refine⟨⟨λy hy=>w.a y (List.mem_of_mem_take hy)⟩,?_⟩;have h1:=y5 h;have h2:=size_eq (lget S ((S.length:Int)-1)).2;rw[show(0:Int).toNat=0 from rfl,List.drop_zero];omega
theorem mF{ks:List Tr}{i:Int}(h0:0<=i)(h1:i<(ks.length:Int)):(sizeL (ks.drop i.toNat):Int)=((lget ks i).size:Int)+(sizeL (ks.drop (i+1).toNat):Int):=by
 obtain⟨hl,he⟩:=List.getElem?_eq_some_iff.1 (dG h0 h1);rw[List.drop_eq_getElem_cons hl,he,show(i+1).toNat=i.toNat+1 by omega,sizeL];omega
theorem Ec{B:Nat}(w:CopJ r S ST ix)(h0:0<=ix)(h1:ix<((lget S ((S.length:Int)-1)).2.kids.length:Int))(hk:((lget (lget S ((S.length:Int)-1)).2.kids ix).kids.length:Int)>0):CopJ r S (ST++[(ip B ix,lget (lget S ((S.length:Int)-1)).2.kids ix)]) (ix+1):=by
 refine⟨⟨λy hy=>?_⟩,?_⟩
 .rcases List.mem_append.1 hy with hy|hy
  .exact w.a.a y hy
  .rw[List.mem_singleton.1 hy];exact .inl λe=>by
    simp only at e;rw[e]at hk;simp at hk
 .have h2:=w.m;rw[mF h0 h1]at h2;rw[qP];simp only[stkM];omega
theorem C5(w:CopJ r S ST ix)(h0:0<=ix)(h1:ix<((lget S ((S.length:Int)-1)).2.kids.length:Int)):CopJ r S ST (ix+1):=by
 refine⟨w.a,?_⟩;have h2:=w.m;rw[mF h0 h1]at h2;omega
theorem DZ(w:CopJ r S ST ix):stkM ST<stkM S:=by
 have:=w.m;omega
theorem DX(h:0<(S.length:Int)):((lget S ((S.length:Int)-1)).2.kids.length:Int)<=(sizeL (lget S ((S.length:Int)-1)).2.kids:Int)/\(sizeL (lget S ((S.length:Int)-1)).2.kids:Int)+1<=stkM S:=by
 have h1:=y5 h;have h2:=size_eq (lget S ((S.length:Int)-1)).2;have h3:=gt (lget S ((S.length:Int)-1)).2.kids;have h4:=lw (List.take (Int.toNat ((S.length:Int)-1)) S);omega
theorem F9(w:CopJ r S ST ix):(ST.length:Int)<stkM S:=by
 have:=lw ST;have:=w.m;omega
end
abbrev N5(Γ:Glob)(x:ND)(L:SV)(ks:List Tr):TG:=λl Zq vq hq=>∃w:SV,(NilK w ks)/\vq=.agg (ndL x (oneS w))/\St Zq (br Γ (oneS L) ks::br Γ (oneS w) ks::l) hq
noncomputable abbrev NI(Γ:Glob)(x:ND)(L:SV)(ks:List Tr)(Z0:Hp)(l:List Asrt):Cx:=fnC Tryz.prog Γ Tryz.f131 1 [] (d4 Z0::l) (dz Z0 (N5 Γ x L ks l))
theorem Nj(x:ND)(L:SV)(ks:List Tr)(hz:(sizeL ks:Int)<=1000000)(hn:NilK L ks)(bk0 bk1 bk2:Nat)(stk:SV)(S:List (SV×Tr))(K101 w103:SV)(B104:Nat)(om0_0_1_1:Nat)(oih0_0_1_1:∀(Z:Hp) (stk:SV) (S:List (SV×Tr)) (hi:stkM S<=1000001/\CopI (.ptr bk0 0,Tr.mk x ks) S) (hm:(stkM S).toNat<om0_0_1_1),den (NI Γ x L ks Z0 l) (.stop [0,0,1,1] zy6 zy1) ⟨14,2,5,2,3,7⟩ (va {i:=[x.k,x.v0,x.v1,x.v2,x.v5,x.a0,x.a1,x.a2,x.a3,x.b0,x.b1,x.b2,x.b3,x.rows],t:=[x.v3,x.name],b:=[x.v4,x.a4,x.a5,x.b4,x.b5],r:=[L,stk],n:=[bk0,bk1,bk2],a:=[br Γ (oneS L) ks,lsA 144 1 hpE (.slice bk2 0 1 1) [(.ptr bk0 0,Tr.mk x ks)],hgA Γ 2 [(.ptr bk0 0,Tr.mk x ks)] [(.ptr bk0 0,Tr.mk x ks)] [(.ptr bk0 0,Tr.mk x ks)] [],br Γ (oneS L) ks,lsA 144 1 hpE (oneS stk) S,hgA Γ 2 [(.ptr bk0 0,Tr.mk x ks)] [(.ptr bk0 0,Tr.mk x ks)] S [],br Γ (oneS L) ks]}) Z)(ohm0_0_1_1:(stkM S).toNat<om0_0_1_1+1):∀(m:Nat) (Z:Hp) (stk:SV) (ix:Int) (ST:List (SV×Tr)) (hi:0<=ix/\ix<=((lget S ((S.length:Int)-1)).2.kids.length:Int)/\0<(S.length:Int)/\stkM S<=1000001/\CopJ (.ptr bk0 0,Tr.mk x ks) S ST ix) (hm:(((lget S ((S.length:Int)-1)).2.kids.length:Int)-ix).toNat<m),den (NI Γ x L ks Z0 l) (.stop [0,1,1,1,1,0,1,0,0,0,1,1] zy5 zy0) ⟨19,2,5,9,3,16⟩ (va {i:=[x.k,x.v0,x.v1,x.v2,x.v5,x.a0,x.a1,x.a2,x.a3,x.b0,x.b1,x.b2,x.b3,x.rows,(S.length:Int),(S.length:Int),(S.length:Int),(((lget S ((S.length:Int)-1)).2.kids).length:Int),ix],t:=[x.v3,x.name],b:=[x.v4,x.a4,x.a5,x.b4,x.b5],r:=[L,stk,(elP (oneS stk) (Int.toNat ((S.length:Int)-1)*1)),(((lget S ((S.length:Int)-1))).1),(tkP (oneS stk) (Int.toNat ((S.length:Int)-1))),K101,w103,w103,stk],n:=[bk0,bk1,bk2],a:=[br Γ (oneS L) ks,lsA 144 1 hpE (.slice bk2 0 1 1) [(.ptr bk0 0,Tr.mk x ks)],hgA Γ 2 [(.ptr bk0 0,Tr.mk x ks)] [(.ptr bk0 0,Tr.mk x ks)] [(.ptr bk0 0,Tr.mk x ks)] [],br Γ (oneS L) ks,lsA 144 1 hpE (oneS stk) S,hgA Γ 2 [(.ptr bk0 0,Tr.mk x ks)] [(.ptr bk0 0,Tr.mk x ks)] S [],br Γ (oneS L) ks,lsA 144 1 hpE (oneS (tkP (oneS stk) (Int.toNat ((S.length:Int)-1)))) (List.take (Int.toNat ((S.length:Int)-1)) S),br Γ (oneS K101) (lget S ((S.length:Int)-1)).2.kids,br Γ (oneS K101) ((lget S ((S.length:Int)-1)).2.kids),nlA Γ (oneS w103) ((lget S ((S.length:Int)-1)).2.kids),hgA Γ 2 [(.ptr bk0 0,Tr.mk x ks)] [(.ptr bk0 0,Tr.mk x ks)] ((List.take (Int.toNat ((S.length:Int)-1)) S)++List.drop (Int.toNat 0) (dU B104 ((lget S ((S.length:Int)-1)).2.kids))) (wt (lget S ((S.length:Int)-1)).1 w103),liA (oneS w103) B104 ((lget S ((S.length:Int)-1)).2.kids),lsA 144 1 hpE (oneS stk) ST,hgA Γ 2 [(.ptr bk0 0,Tr.mk x ks)] [(.ptr bk0 0,Tr.mk x ks)] (ST++List.drop (Int.toNat ix) (dU B104 ((lget S ((S.length:Int)-1)).2.kids))) (wt (lget S ((S.length:Int)-1)).1 w103),br Γ (oneS L) ks]}) Z:=by
 intro m
 induction m with
 |zero=>intros;omega
 |succ m ih=>
  intro Z stk ix ST hi hm;refine cZ [0,1,1,1,1,0,1,0,0,0,1,1] zy5 zy0 [] ⟨19,2,5,9,3,16⟩ (.fork (.lt (.v 18) (.v 17)) (.row (.nil (.raw 3)) [.asr 14] (.raw 3) ⟨19,2,5,9,3,16⟩<|.row (.fld 85 (.raw 3) 5) [.asr 14] (.pad 3 21) ⟨19,2,5,9,3,16⟩<|.row (.load 83 (.pad 3 21)) [.asr 14] (.raw 9) ⟨19,2,5,10,3,16⟩<|.row (.idxA 83 (.raw 9) (vI 18)) [.asr 12] (.raw 10) ⟨19,2,5,11,3,16⟩<|.row (.fld 85 (.raw 10) 5) [.asr 14] (.pad 10 21) ⟨19,2,5,11,3,16⟩<|.row (.load 83 (.pad 10 21)) [.asr 14] (.raw 11) ⟨19,2,5,12,3,16⟩<|.swap [] [.asr 16] ⟨19,2,5,12,3,17⟩<|.row (.len 83 (.raw 11)) [.asr 16] (vI 19) ⟨20,2,5,12,3,17⟩<|.fork (.lt (.z 0) (.v 19)) (.row (.nil (.raw 3)) [.asr 14] (.raw 3) ⟨20,2,5,12,3,17⟩<|.row (.fld 85 (.raw 3) 5) [.asr 14] (.pad 3 21) ⟨20,2,5,12,3,17⟩<|.row (.load 83 (.pad 3 21)) [.asr 14] (.raw 12) ⟨20,2,5,13,3,17⟩<|.row (.idxA 83 (.raw 12) (vI 18)) [.asr 12] (.raw 13) ⟨20,2,5,14,3,17⟩<|.new<|.eff (.app [276,276] (.raw 8) (.slice 3 0 1 1)) [.asr 13,.blk 3 [.raw 13] 144] (.raw 14) [.asr 17] ⟨20,2,5,15,4,18⟩<|.vc (xI (.add (.v 18) (.z 1)))<|.swap [.asr 14] [.asr 18] ⟨20,2,5,15,4,19⟩<|.stop [0,1,1,1,1,0,1,0,0,0,1,1] [(1,.ptr 0 0),(2,.ptr 1 0),(3,.raw 14),(4,.raw 3),(33,vI 17),(34,I (.add (.v 18) (.z 1)))] [.asr 18,.asr 12,.asr 9,.asr 17,.asr 15,.blk 1 TU 85])<|.row (.nil (.raw 3)) [.asr 14] (.raw 3) ⟨20,2,5,12,3,17⟩<|.row (.fld 85 (.raw 3) 5) [.asr 14] (.pad 3 21) ⟨20,2,5,12,3,17⟩<|.row (.load 83 (.pad 3 21)) [.asr 14] (.raw 12) ⟨20,2,5,13,3,17⟩<|.row (.idxA 83 (.raw 12) (vI 18)) [.asr 12] (.raw 13) ⟨20,2,5,14,3,17⟩<|.row (.fld 85 (.raw 13) 5) [.asr 14] (.pad 13 21) ⟨20,2,5,14,3,17⟩<|.eff (.store 83 (.pad 13 21) (.lit mt)) [.asr 14] (.lit (.tuple #[])) [.asr 17] ⟨20,2,5,14,3,18⟩<|.vc (xI (.add (.v 18) (.z 1)))<|.stop [0,1,1,1,1,0,1,0,0,0,1,1] [(1,.ptr 0 0),(2,.ptr 1 0),(3,.raw 8),(4,.raw 3),(33,vI 17),(34,I (.add (.v 18) (.z 1)))] [.asr 17,.asr 12,.asr 9,.asr 13,.asr 15,.blk 1 TU 85])<|.swap [.asr 14] [.asr 16] ⟨19,2,5,9,3,17⟩<|.stop [0,0,1,1] [(1,.ptr 0 0),(2,.ptr 1 0),(3,.raw 8)] [.asr 16,.asr 15,.asr 13,.blk 1 TU 85]) 100000 bm (λ_ h=>by cases h) ?_;refine bo (ix<(((lget S ((S.length:Int)-1)).2.kids).length:Int)) rfl (λcd1=>?_) λcd1=>?_
  .refine drT {} (λl h hs=>pT (m:=l) (h:=h) (p:=(lget S ((S.length:Int)-1)).1) (w:=w103) hs) ?_;refine drT {} (λl h hs=>p7 (m:=l) (h:=h) (p:=(lget S ((S.length:Int)-1)).1) (w:=w103) (λ_ _=>rfl) hs) ?_;refine drT {r:=[w103]} (λl h hs=>uZ (m:=l) (h:=h) (p:=(lget S ((S.length:Int)-1)).1) (w:=w103) rfl hs) ?_;refine drT {r:=[(ip B104 ix)]} (λl h hs=>wi (m:=l) (h:=h) (i:=ix) rfl Ky0 Ky0 hs) ?_;refine drT {} (λl h hs=>jy (m:=l) (h:=h) (p:=(ip B104 ix)) (λ_ _=>rfl) (qg Ky0 Ky0) hs) ?_;refine nV (λ(K200:SV)=>{r:=[K200]}) (λ(K200:SV)=>KidsOf Γ Z (oneS K200) (lget ((lget S ((S.length:Int)-1)).2.kids) ix).kids/\(((ip B104 ix),(lget ((lget S ((S.length:Int)-1)).2.kids) ix))∈[(.ptr bk0 0,Tr.mk x ks)]->2<=2->NilK K200 (lget ((lget S ((S.length:Int)-1)).2.kids) ix).kids)) (λl h hs=>lQ (m:=l) (h:=h) (p:=(ip B104 ix)) rfl (qg Ky0 Ky0) hs) λK200 kd200=>?_;have kz200:=kd200.2;refine dsU {a:=[br Γ (oneS K200) (lget ((lget S ((S.length:Int)-1)).2.kids) ix).kids]} (λl h hs=>co kd200.1 (hs) (m:=l) (h:=h)) ?_;refine dD {i:=[(((lget ((lget S ((S.length:Int)-1)).2.kids) ix).kids).length:Int)]} _ (λl h hs=>dN (m:=l) (h:=h) hs) λkl202=>?_;refine bo (0<(((lget ((lget S ((S.length:Int)-1)).2.kids) ix).kids).length:Int)) rfl (λcd2=>?_) λcd2=>?_
   .refine drT {} (λl h hs=>pT (m:=l) (h:=h) (p:=(lget S ((S.length:Int)-1)).1) (w:=w103) hs) ?_;refine drT {} (λl h hs=>p7 (m:=l) (h:=h) (p:=(lget S ((S.length:Int)-1)).1) (w:=w103) (λ_ _=>rfl) hs) ?_;refine drT {r:=[w103]} (λl h hs=>uZ (m:=l) (h:=h) (p:=(lget S ((S.length:Int)-1)).1) (w:=w103) rfl hs) ?_;refine drT {r:=[(ip B104 ix)]} (λl h hs=>wi (m:=l) (h:=h) (i:=ix) rfl Ky0 Ky0 hs) ?_;refine bA λbk3=>?_;refine dJ (λ(v203:SV)=>{r:=[v203],a:=[lsA 144 1 hpE (oneS v203) (ST++[(ip B104 ix,lget ((lget S ((S.length:Int)-1)).2.kids) ix)])]}) (λ_=>True) (λl h hs=>iu (m:=l) (h:=h) rfl GI (by decide) hs (by first|rfl|first|exact byE_wr _|exact mu bj bj) rfl (by first|rfl|exact(GY ((ip B104 ix,lget ((lget S ((S.length:Int)-1)).2.kids) ix))).2) Ky0) λv203 _=>?_;refine bE (show I6 (ix+1)from Ky0) ?_;refine dsU {a:=[hgA Γ 2 [(.ptr bk0 0,Tr.mk x ks)] [(.ptr bk0 0,Tr.mk x ks)] ((ST++[(ip B104 ix,lget ((lget S ((S.length:Int)-1)).2.kids) ix)])++List.drop (Int.toNat (ix+1)) (dU B104 ((lget S ((S.length:Int)-1)).2.kids))) (wt (lget S ((S.length:Int)-1)).1 w103)]} (λl h hs=>JC Ky0 Ky0 (hs) (m:=l) (h:=h)) ?_;exact bu (ih _ v203 (ix+1) (ST++[(ip B104 ix,lget ((lget S ((S.length:Int)-1)).2.kids) ix)]) Ky0 Ky0) rfl rfl
   .refine drT {} (λl h hs=>pT (m:=l) (h:=h) (p:=(lget S ((S.length:Int)-1)).1) (w:=w103) hs) ?_;refine drT {} (λl h hs=>p7 (m:=l) (h:=h) (p:=(lget S ((S.length:Int)-1)).1) (w:=w103) (λ_ _=>rfl) hs) ?_;refine drT {r:=[w103]} (λl h hs=>uZ (m:=l) (h:=h) (p:=(lget S ((S.length:Int)-1)).1) (w:=w103) rfl hs) ?_;refine drT {r:=[(ip B104 ix)]} (λl h hs=>wi (m:=l) (h:=h) (i:=ix) rfl Ky0 Ky0 hs) ?_;refine drT {} (λl h hs=>jy (m:=l) (h:=h) (p:=(ip B104 ix)) (λ_ _=>rfl) (qg Ky0 Ky0) hs) ?_;refine dJ (λ(_:Unit)=>{a:=[hgA Γ 2 [(.ptr bk0 0,Tr.mk x ks)] [(.ptr bk0 0,Tr.mk x ks)] (ST++List.drop (Int.toNat (ix+1)) (dU B104 ((lget S ((S.length:Int)-1)).2.kids))) (wt (lget S ((S.length:Int)-1)).1 w103)]}) (λ_=>True) (λl h hs=>J7 (m:=l) (h:=h) (i:=ix) rfl Ky0 Ky0 Ky0 hs) λ_ _=>?_;refine bE (show I6 (ix+1)from Ky0) ?_;exact bu (ih _ stk (ix+1) ST Ky0 Ky0) rfl rfl
  .refine dsU {a:=[hgA Γ 2 [(.ptr bk0 0,Tr.mk x ks)] [(.ptr bk0 0,Tr.mk x ks)] ST []]} (λl h hs=>LX Ky0 (hs) (m:=l) (h:=h)) ?_;exact bu (oih0_0_1_1 _ stk ST Ky0 Ky0) rfl rfl
theorem Mi(x:ND)(L:SV)(ks:List Tr)(hz:(sizeL ks:Int)<=1000000)(hn:NilK L ks)(bk0 bk1 bk2:Nat):∀(m:Nat) (Z:Hp) (stk:SV) (S:List (SV×Tr)) (hi:stkM S<=1000001/\CopI (.ptr bk0 0,Tr.mk x ks) S) (hm:(stkM S).toNat<m),den (NI Γ x L ks Z0 l) (.stop [0,0,1,1] zy6 zy1) ⟨14,2,5,2,3,7⟩ (va {i:=[x.k,x.v0,x.v1,x.v2,x.v5,x.a0,x.a1,x.a2,x.a3,x.b0,x.b1,x.b2,x.b3,x.rows],t:=[x.v3,x.name],b:=[x.v4,x.a4,x.a5,x.b4,x.b5],r:=[L,stk],n:=[bk0,bk1,bk2],a:=[br Γ (oneS L) ks,lsA 144 1 hpE (.slice bk2 0 1 1) [(.ptr bk0 0,Tr.mk x ks)],hgA Γ 2 [(.ptr bk0 0,Tr.mk x ks)] [(.ptr bk0 0,Tr.mk x ks)] [(.ptr bk0 0,Tr.mk x ks)] [],br Γ (oneS L) ks,lsA 144 1 hpE (oneS stk) S,hgA Γ 2 [(.ptr bk0 0,Tr.mk x ks)] [(.ptr bk0 0,Tr.mk x ks)] S [],br Γ (oneS L) ks]}) Z:=by
 intro m
 induction m with
 |zero=>intros;omega
 |succ m ih=>
  intro Z stk S hi hm;refine cZ [0,0,1,1] zy6 zy1 [] ⟨14,2,5,2,3,7⟩ (.row (.len 276 (.raw 1)) [.asr 4] (vI 14) ⟨15,2,5,2,3,7⟩<|.fork (.lt (.z 0) (.v 14)) (.row (.len 276 (.raw 1)) [.asr 4] (vI 15) ⟨16,2,5,2,3,7⟩<|.vc (xI (.sub (.v 15) (.z 1)))<|.row (.idxA 276 (.raw 1) (I (.sub (.v 15) (.z 1)))) [.asr 4] (.raw 2) ⟨16,2,5,3,3,7⟩<|.row (.load 144 (.raw 2)) [.asr 4] (.raw 3) ⟨16,2,5,4,3,7⟩<|.row (.len 276 (.raw 1)) [.asr 4] (vI 16) ⟨17,2,5,4,3,7⟩<|.vc (xI (.sub (.v 16) (.z 1)))<|.row (.slc 276 (.raw 1) none (some (I (.sub (.v 16) (.z 1))))) [.asr 4] (.raw 4) ⟨17,2,5,5,3,7⟩<|.swap [.asr 4] [.asr 7] ⟨17,2,5,5,3,8⟩<|.row (.nil (.raw 3)) [.asr 5] (.raw 3) ⟨17,2,5,5,3,8⟩<|.row (.fld 85 (.raw 3) 5) [.asr 5] (.pad 3 21) ⟨17,2,5,5,3,8⟩<|.row (.load 83 (.pad 3 21)) [.asr 5] (.raw 5) ⟨17,2,5,6,3,8⟩<|.swap [] [.asr 8] ⟨17,2,5,6,3,9⟩<|.call 184 [.raw 5] [.asr 8] (.raw 6) [.asr 9,.asr 10] ⟨17,2,5,7,3,11⟩<|.row (.nil (.raw 3)) [.asr 5] (.raw 3) ⟨17,2,5,7,3,11⟩<|.row (.fld 85 (.raw 3) 5) [.asr 5] (.pad 3 21) ⟨17,2,5,7,3,11⟩<|.eff (.store 83 (.pad 3 21) (.raw 6)) [.asr 5,.asr 10] (.lit (.tuple #[])) [.asr 11,.asr 12] ⟨17,2,5,7,3,13⟩<|.row (.nil (.raw 3)) [.asr 11] (.raw 3) ⟨17,2,5,7,3,13⟩<|.row (.fld 85 (.raw 3) 5) [.asr 11] (.pad 3 21) ⟨17,2,5,7,3,13⟩<|.row (.load 83 (.pad 3 21)) [.asr 11] (.raw 7) ⟨17,2,5,8,3,13⟩<|.row (.len 83 (.raw 7)) [.asr 12] (vI 17) ⟨18,2,5,8,3,13⟩<|.stop [0,1,1,1,1,0,1,0,0,0,1,1] [(1,.ptr 0 0),(2,.ptr 1 0),(3,.raw 4),(4,.raw 3),(33,vI 17),(34,Fd)] [.asr 11,.asr 12,.asr 9,.asr 7,.asr 6,.blk 1 TU 85])<|.swap [.asr 5] [.blk 0 zy3 85,.asr 7] ⟨29,4,10,3,3,8⟩<|.ret (.agg zy3) [.asr 6,.asr 7]) 100000 bm (λ_ h=>by cases h) ?_;refine drT {i:=[(S.length:Int)]} (λl h hs=>eD (m:=l) (h:=h) rfl (λ_=>rfl) hs) ?_;refine bo (0<(S.length:Int)) rfl (λcd1=>?_) λcd1=>?_
  .refine drT {i:=[(S.length:Int)]} (λl h hs=>eD (m:=l) (h:=h) rfl (λ_=>rfl) hs) ?_;refine bE (show I6 ((S.length:Int)-1)from Ky0) ?_;refine drT {r:=[(elP (oneS stk) (Int.toNat ((S.length:Int)-1)*1))]} (λl h hs=>ga (m:=l) (h:=h) (i:=((S.length:Int)-1)) rfl rfl hs Ky0 Ky0) ?_;refine drT {r:=[(((lget S ((S.length:Int)-1))).1)]} (λl h hs=>iO (m:=l) (h:=h) (i:=((S.length:Int)-1)) rfl rfl hs Ky0 Ky0 rfl) ?_;refine drT {i:=[(S.length:Int)]} (λl h hs=>eD (m:=l) (h:=h) rfl (λ_=>rfl) hs) ?_;refine bE (show I6 ((S.length:Int)-1)from Ky0) ?_;refine drT {r:=[(tkP (oneS stk) (Int.toNat ((S.length:Int)-1)))]} (λl h hs=>Fa (m:=l) (h:=h) (n:=((S.length:Int)-1)) rfl rfl hs Ky0 Ky0 Ky0) ?_;refine dsU {a:=[lsA 144 1 hpE (oneS (tkP (oneS stk) (Int.toNat ((S.length:Int)-1)))) (List.take (Int.toNat ((S.length:Int)-1)) S)]} (λl h hs=>KA Ky0 (hs) (m:=l) (h:=h)) ?_;refine drT {} (λl h hs=>lu (m:=l) (h:=h) (p:=(lget S ((S.length:Int)-1)).1) (jT Ky0 Ky0) hs) ?_;refine drT {} (λl h hs=>jy (m:=l) (h:=h) (p:=(lget S ((S.length:Int)-1)).1) (λ_ _=>rfl) (jT Ky0 Ky0) hs) ?_;refine nV (λ(K101:SV)=>{r:=[K101]}) (λ(K101:SV)=>KidsOf Γ Z (oneS K101) (lget S ((S.length:Int)-1)).2.kids/\(((lget S ((S.length:Int)-1)).1,(lget S ((S.length:Int)-1)).2)∈[(.ptr bk0 0,Tr.mk x ks)]->2<=2->NilK K101 (lget S ((S.length:Int)-1)).2.kids)) (λl h hs=>lQ (m:=l) (h:=h) (p:=(lget S ((S.length:Int)-1)).1) rfl (jT Ky0 Ky0) hs) λK101 kd101=>?_;have kz101:=kd101.2;refine dsU {a:=[br Γ (oneS K101) (lget S ((S.length:Int)-1)).2.kids]} (λl h hs=>co kd101.1 (hs) (m:=l) (h:=h)) ?_;refine bS (λ(w103:SV)=>{r:=[w103],a:=[br Γ (oneS K101) ((lget S ((S.length:Int)-1)).2.kids),nlA Γ (oneS w103) ((lget S ((S.length:Int)-1)).2.kids)]}) _ (λ_ _=>RA Γ K101 ((lget S ((S.length:Int)-1)).2.kids) Ky0 Ky0) λZ w103 qd103=>?_;refine drT {} (λl h hs=>lu (m:=l) (h:=h) (p:=(lget S ((S.length:Int)-1)).1) (jT Ky0 Ky0) hs) ?_;refine drT {} (λl h hs=>jy (m:=l) (h:=h) (p:=(lget S ((S.length:Int)-1)).1) (λ_ _=>rfl) (jT Ky0 Ky0) hs) ?_;refine dJ (λ(B104:Nat)=>{a:=[hgA Γ 2 [(.ptr bk0 0,Tr.mk x ks)] [(.ptr bk0 0,Tr.mk x ks)] ((List.take (Int.toNat ((S.length:Int)-1)) S)++List.drop (Int.toNat 0) (dU B104 ((lget S ((S.length:Int)-1)).2.kids))) (wt (lget S ((S.length:Int)-1)).1 w103),liA (oneS w103) B104 ((lget S ((S.length:Int)-1)).2.kids)]}) (λ_=>True) (λl h hs=>Mw (m:=l) (h:=h) (S:=S) (v:=w103) (i:=((S.length:Int)-1)) rfl Ky0 Ky0 Ky0 hs) λB104 _=>?_;refine drT {} (λl h hs=>pT (m:=l) (h:=h) (p:=(lget S ((S.length:Int)-1)).1) (w:=w103) hs) ?_;refine drT {} (λl h hs=>p7 (m:=l) (h:=h) (p:=(lget S ((S.length:Int)-1)).1) (w:=w103) (λ_ _=>rfl) hs) ?_;refine drT {r:=[w103]} (λl h hs=>uZ (m:=l) (h:=h) (p:=(lget S ((S.length:Int)-1)).1) (w:=w103) rfl hs) ?_;refine drT {i:=[(((lget S ((S.length:Int)-1)).2.kids).length:Int)]} (λl h hs=>Ls (m:=l) (h:=h) rfl hs) ?_;exact bu (Nj Γ x L ks hz hn bk0 bk1 bk2 stk S K101 w103 B104 m ih hm _ _ (tkP (oneS stk) (Int.toNat ((S.length:Int)-1))) 0 (List.take (Int.toNat ((S.length:Int)-1)) S) Ky0 (aq _)) rfl rfl
  .refine jt (λ(K105:SV)=>{TD x K105 with a:=[br Γ (oneS K105) ks]}) (λ(K105:SV)=>2<=2->NilK K105 ks) (λl h hs=>CJ (hs) (m:=l) (h:=h)) λZ K105 qk105=>?_;exact an λh hs=>⟨K105,Ky0,rfl,hs⟩
theorem Tq(x:ND)(L:SV)(ks:List Tr)(hz:(sizeL ks:Int)<=1000000)(hn:NilK L ks)(hs:St Z0 (br Γ (oneS L) ks::l) h):RC Γ Z0 131 [.agg (ndL x (oneS L))] h (N5 Γ x L ks l):=by
 refine bL Tryz.f131 Tryz.func131 [.agg TQ] [.asr 0] ⟨14,2,5,1,0,1⟩ (va {TD x L with a:=[br Γ (oneS L) ks]}) (.new<|.new<|.new<|.swap [.blk 2 [.ptr 0 0] 144] [.asr 1] ⟨14,2,5,1,3,2⟩<|.swap [.blk 0 TQ 85,.asr 0] [.asr 2,.asr 3] ⟨14,2,5,1,3,4⟩<|.stop [0,0,1,1] [(1,.ptr 0 0),(2,.ptr 1 0),(3,.slice 2 0 1 1)] [.asr 2,.asr 3,.asr 1,.blk 1 TU 85]) hs ?_;refine bA λbk0=>?_;refine bA λbk1=>?_;refine bA λbk2=>?_;refine dsU {a:=[lsA 144 1 hpE (.slice bk2 0 1 1) [(.ptr bk0 0,Tr.mk x ks)]]} (λl h hs=>II (hs) (m:=l) (h:=h)) ?_;refine dsU {a:=[hgA Γ 2 [(.ptr bk0 0,Tr.mk x ks)] [(.ptr bk0 0,Tr.mk x ks)] [(.ptr bk0 0,Tr.mk x ks)] [],br Γ (oneS L) ks]} (λl h hs=>Fl (c:=2) (x:=x) rfl Ky0 (hs) (m:=l) (h:=h)) ?_;exact bu (Mi Γ x L ks hz hn bk0 bk1 bk2 _ _ (.slice bk2 0 1 1) ([(.ptr bk0 0,Tr.mk x ks)]) Ky0 (aq _)) (by first|rfl|(simp only[ax,aY,XV.sv,va,Va.ext,fN,List.getD,ei];rfl)) (by first|rfl|(simp only[ei];rfl))
def ndZ:ND:=⟨0,0,0,0,[],false,0,[],0,0,0,0,false,false,0,0,0,0,false,false,0⟩
set_option maxRecDepth 20000 in
theorem Eu:∃i z,Tryz.prog.info? 85=some i/\i.zero=some z/\i.size=22/\i.bytes<=200/\SV.cells (.lit z)=ndZ.cells (.lit (.slice none 0 0)):=by
 have h:(Tryz.prog.info? 85).isSome=true:=bm;obtain⟨i,hi⟩:=Option.isSome_iff_exists.1 h;have h2:((Tryz.prog.info? 85).bind (·.zero)).isSome=true:=bm;rw[hi]at h2;obtain⟨z,hz⟩:=Option.isSome_iff_exists.1 h2;have hz':i.zero=some z:=hz;have h3:((Tryz.prog.info? 85).map λi=>Nat.beq i.size 22&&Nat.ble i.bytes 200)=some true:=bm;have h4:((Tryz.prog.info? 85).bind λi=>i.zero.map λz=>SV.cells (.lit z))=some (ndZ.cells (.lit (.slice none 0 0))):=bm;rw[hi,af,a7,a8]at h3;rw[hi,ay,hz',af,a7]at h4;exact⟨i,z,hi,hz',aj h3.1,aG h3.2,h4⟩
section
variable {Γ:Glob}{Z h:Hp}{m:List Asrt}
theorem G5:KidsOf Γ Z (.lit (.slice none 0 0)) []:=⟨gK,λ_=>.lit .nilIface,λi hi=>absurd hi (Nat.not_lt_zero i),λi t hi=>by simp at hi⟩
theorem IX{t:TypeId}{n:Int}(ht:tyU Tryz.prog t=some (.slice 85))(h0:0<=n)(h1:n<=5000)(s:St Z m h):
 ∃v H,val (ff Tryz.prog h t (iV n) (iV n))=some [(oneS v,H)]/\h.next<=H.next/\True/\St Z (nlA Γ (oneS v) (List.replicate n.toNat (Tr.mk ndZ []))::m) H:=by
 obtain⟨i,z,hi,hz',his,hb,hzc⟩:=Eu;obtain⟨k,rfl⟩:=Int.eq_ofNat_of_zero_le h0;have hk:k<=5000:=by omega
 have hc:(Nat.ble k k&&Nat.ble (i.bytes*k) 1048576&&Nat.ble k 1048576&&Nat.beq (SV.cells (.lit z)).length i.size)=true:=by
  have:i.bytes*k<=200*5000:=Nat.mul_le_mul hb hk;rw[ai (av k),ai (show i.bytes*k<=1048576 by omega),ai (show k<=1048576 by omega),jL (show(SV.cells (.lit z)).length=i.size by rw[hzc,his];rfl)];rfl
 have hv:oneS (.slice h.next 0 k k)=.slice h.next 0 k k:=cm rfl (by simp only[SV.same,bb,aF]);have hcs:(bif Nat.beq (k*i.size) 0 then[]else di (SV.cells (.lit z)) k)=((List.replicate k (ndZ,(SV.lit (.slice none 0 0)))).map em).flatten:=by
  rw[List.map_replicate,<-oX,hzc];by_cases hk0:k=0
  .subst hk0;rw[Nat.zero_mul];rfl
  .rw[EQ (show k*i.size≠0 from Nat.ne_of_gt (Nat.mul_pos (Nat.pos_of_ne_zero hk0) bj))];rfl
 refine⟨.slice h.next 0 k k,⟨h.objs.set h.next (.cells ((List.replicate k (ndZ,(SV.lit (.slice none 0 0)))).map em).flatten 85),h.next+1⟩,?_,Nat.le_succ _,trivial,?_⟩
 .rw[hv];have:ff Tryz.prog h t (.lit (.int .i64 (Int.ofNat k))) (.lit (.int .i64 (Int.ofNat k)))=some (.slice h.next 0 k k,⟨h.objs.set h.next (.cells ((List.replicate k (ndZ,(SV.lit (.slice none 0 0)))).map em).flatten 85),h.next+1⟩):=by
   simp only[ff,ht,hi,hz',hc,bf,hcs];rfl
  show val (ff Tryz.prog h t (.lit (.int .i64 (Int.ofNat k))) (.lit (.int .i64 (Int.ofNat k))))=_;rw[this];rfl
 .rw[hv,Int.toNat_natCast];refine jK.2 ⟨List.replicate k (ndZ,.lit (.slice none 0 0)),⟨by simp,λj e t h1 h2=>?_⟩,?_⟩
  .have e1:=List.eq_of_mem_replicate (aW h1);have e2:=List.eq_of_mem_replicate (aW h2);rw[e1,e2];exact⟨rfl,G5⟩
  .have hl:((List.replicate k (ndZ,(SV.lit (.slice none 0 0)))).map em).length=k:=by simp
   refine ee (λy hy=>?_) (s.new (o:=.cells ((List.replicate k (ndZ,(SV.lit (.slice none 0 0)))).map em).flatten 85)) ⟨_,.inl ⟨k,by rw[hl],by rw[hl];exact av _,by omega,rfl,?_⟩,?_⟩
   .obtain⟨e,he,rfl⟩:=List.mem_map.1 hy;rw[List.eq_of_mem_replicate he];exact⟨rfl,rfl⟩
   .rw[eT,lH,List.length_replicate]
   .rw[hl,eT];refine List.take_of_length_le ?_;rw[lH,List.length_replicate];exact av _
theorem Hi{t:TypeId}{v L:SV}{ts ks:List Tr}(ht:tyU Tryz.prog t=some (.slice 85))(hl:(ts.length:Int)=ks.length)(h0:0<(ks.length:Int))(s:St Z (nlA Γ v ts::br Γ L ks::m) h):
 ∃(_:Unit) (H:Hp),val (qA Tryz.prog Γ h t v L)=some [(iV (ks.length:Int),H)]/\h.next<=H.next/\True/\St Z (nlA Γ v ks::br Γ L ks::m) H:=by
 have hne:ks≠[]:=λe=>by rw[e]at h0;simp at h0
 obtain⟨fs,w2,hsrc⟩:=Cz (λe=>absurd e hne) s.rot1;obtain⟨es,w1,s⟩:=jK.1 s;have hfl:(fs.map em).flatten.length=ks.length*22:=by rw[eT,lH,w2.1]
 have hone:(fs.map em).flatten.all SV.one=true:=by
  rw[aE];intro x hx;obtain⟨y,hy,hxy⟩:=List.mem_flatten.1 hx;obtain⟨e,he,rfl⟩:=List.mem_map.1 hy;obtain⟨i,hi⟩:=List.getElem?_of_mem he;have hi2:i<ks.length:=by rw[<-w2.1];exact(List.getElem?_eq_some_iff.1 hi).1
  have h3:=(w2.2 i e _ hi (aB hi2)).2.1.1;have:(em e).all SV.one=true:=by
   simp only[em,ND.cells,al,List.all_nil,h3,Bool.and_true];rfl
  exact aE.1 this x hxy
 have hall:∀y∈fs.map em,y.length=22/\y.all SV.one=true:=λy hy=>by
  obtain⟨e,he,rfl⟩:=List.mem_map.1 hy;refine⟨rfl,aE.2 λx hx=>aE.1 hone x (List.mem_flatten.2 ⟨_,hy,hx⟩)⟩
 have hbq:Nat.beq (fs.map em).flatten.length (ks.length*22)=true:=jL hfl;have htk:(fs.map em).flatten.take (ks.length*22)=(fs.map em).flatten:=List.take_of_length_le bj;have hln:(es.map em).length=ks.length:=by rw[ao,w1.1];omega
 have hlf:(fs.map em).length=ks.length:=by rw[ao,w2.1]
 rcases(dR s).2 with⟨rfl,hn,s1⟩|⟨b,o,hb,hlt,⟨cs,⟨c,rfl,c1,c2,ho,c3⟩|⟨k,rfl,c1,ho,c3⟩,hc⟩,s1⟩
 .have:=congrArg List.length hn;rw[hln,aw]at this;omega
 .obtain rfl:=ab ho;rw[hln]at c1 hc⊢;have hsp:cH cs 0 (fs.map em).flatten=some ((fs.map em).flatten++cs.drop (ks.length*22)):=by
   have hle:ks.length*22<=cs.length:=by rw[c3];exact Nat.mul_le_mul_right _ c1
   rw[iJ bj hone,hfl];simp
  refine⟨(),h.upd b (.cells ((fs.map em).flatten++cs.drop (ks.length*22)) 85),?_,av _,trivial,jK.2 ⟨fs,w2,?_⟩⟩
  .simp only[qA,ht,oZ.2,hsrc,Nat.min_self,hb,hbq,bf,htk,hsp,af];rfl
  .refine ee hall (St.set (l:=[]) s1) ⟨_,.inl ⟨c,by rw[hlf],by rw[hlf];exact c1,c2,rfl,?_⟩,?_⟩
   .rw[ac,aR,hfl,c3];have:=Nat.mul_le_mul_right 22 c1;omega
   .rw[hlf,List.take_append,hfl,Nat.sub_self,htk];simp
 .obtain rfl:=ab ho;rw[hln]at c1 hc c3⊢;have hsp:cH cs 0 (fs.map em).flatten=some ((fs.map em).flatten++cs.drop (ks.length*22)):=by
   rw[iJ bj hone,hfl];simp
  refine⟨(),h.upd b (.row ((fs.map em).flatten++cs.drop (ks.length*22)) 85 k b 22),?_,av _,trivial,jK.2 ⟨fs,w2,?_⟩⟩
  .simp only[qA,ht,oZ.2,hsrc,Nat.min_self,hb,hbq,bf,htk,hsp,af];rfl
  .refine ee hall (St.set (l:=[]) s1) ⟨_,.inr ⟨k,by rw[hlf],by rw[hlf];exact c1,rfl,?_⟩,?_⟩
   .rw[hlf,ac,aR,hfl];omega
   .rw[hlf,List.take_append,hfl,Nat.sub_self,htk];simp
end
abbrev zz0:List XV:=(nX 14 2 5 (.raw 1))
abbrev zz2:List (Nat×XV):=[(0,.raw 0),(1,.ptr 0 0),(5,.raw 4),(43,vI 5),(44,vI 6)]
theorem Kz0{P:Prop}(h:P:=by first|omega|(and_intros<;>intros<;>and_intros<;>first|omega|assumption|(have w1:=gt t.kids;omega)|(have w1:=nQ (ks:=t.kids) (i:=ix) bj bj;omega)|(simp only[List.length_replicate];omega)|with_reducible exact hO|(have w1:=xf (ks:=t.kids) (i:=ix) bj bj;have w3:=nQ (ks:=t.kids) (i:=ix) bj bj;omega)|(have w1:=uB (ks:=t.kids) (i:=ix) bj;omega)|(have w1:=AU (ks:=t.kids) bj;omega)|exact λ_ h=>(by cases h)|(have w1:=Cr t.kids;omega)|exact V1)):P:=h
theorem Kz1{P:Prop}(h:P:=by first|rfl|(exfalso;omega)):P:=h
theorem Kz2{P:Prop}(h:P:=by first|exact hs|(exfalso;omega)):P:=h
abbrev SN(Γ:Glob)(x:ND)(L:SV)(ks:List Tr):TG:=λl Zq vq hq=>∃w:SV,(NilK w ks)/\vq=.agg (ndL x (oneS w))/\St Zq (br Γ (oneS L) ks::br Γ (oneS w) ks::l) hq
theorem SS(x:ND)(L:SV)(ks:List Tr)(hz:(sizeL ks:Int)<=1000000)(hn:NilK L ks)(hs:St Z0 (br Γ (oneS L) ks::l) h):RC Γ Z0 84 [.agg (ndL x (oneS L)),.lit .nilFunc] h (SN Γ x L ks l):=by
 refine bL Tryz.f84 Tryz.func84 [.agg TQ,.lit .nilFunc] [.asr 0] ⟨14,2,5,1,0,1⟩ (va {TD x L with a:=[br Γ (oneS L) ks]}) (.new<|.new<|.call 131 [.agg TQ] [.asr 0] (.agg zz0) [.asr 1,.asr 2] ⟨28,4,10,2,2,3⟩<|.ret (.agg zz0) [.asr 1,.asr 2]) hs ?_;refine bA λbk0=>?_;refine bA λbk1=>?_;refine bS (λ(w0:SV)=>{TD x w0 with a:=[br Γ (oneS L) ks,br Γ (oneS w0) ks]}) _ (λ_ _=>Tq Γ x L ks TJ TJ) λZ w0 qd0=>?_;exact an λh hs=>⟨w0,by first|trivial|omega|(and_intros<;>intros<;>and_intros<;>first|trivial|omega|assumption|exact V1),rfl,hs⟩
theorem uB{ks:List Tr}{i:Int}(h:(ks.length:Int)<=i):sizeL (ks.drop i.toNat)=0:=by rw[List.drop_eq_nil_of_le bj];rfl
theorem Cr(ks:List Tr):sizeL (ks.drop (Int.toNat 0))=sizeL ks:=rfl
theorem qe:∀(ks:List Tr) (n:Nat),n<=ks.length->sizeL (ks.drop n)+n<=sizeL ks
 |ks,0,_=>av _
 |[],n+1,h=>absurd h (Nat.not_succ_le_zero n)
 |t::l,n+1,h=>by
  have h1:=qe l n (by simpa using h);have h2:=size_eq t;rw[List.drop_succ_cons,sizeL];omega
theorem xf{ks:List Tr}{i:Int}(h0:0<=i)(h1:i<(ks.length:Int)):(sizeL (ks.drop i.toNat):Int)=(sizeL (lget ks i).kids:Int)+1+(sizeL (ks.drop (i+1).toNat):Int)/\(ks.length:Int)-i-1<=(sizeL (ks.drop (i+1).toNat):Int)/\(sizeL (ks.drop i.toNat):Int)+i<=(sizeL ks:Int):=by
 have h5:=qe ks i.toNat bj;have h2:=mF h0 h1;have h3:=size_eq (lget ks i);have h4:=gt (ks.drop (i+1).toNat);rw[aR]at h4;omega
theorem AU{ks:List Tr}(h:(ks.length:Int)=0):sizeL ks=0:=by
 obtain rfl:ks=[]:=List.length_eq_zero_iff.1 bj;rfl
abbrev Mf(Γ:Glob)(p:SV)(LF:Nat)(left:Int)(c:Nat)(O R S:List (SV×Tr))(C:List (SV×SV))(t:Tr):TG:=λl Zq vq hq=>∃left2:Int,(left2=left-(sizeL t.kids:Int))/\vq=bV true/\St Zq (hgA Γ c O R S C::own LF (.cells [iV left2] 3)::l) hq
def Mb(T:Int):Prop:=∀(Γ:Glob) [Mute Γ] (p:SV) (LF:Nat) (left:Int) (c:Nat) (O R S:List (SV×Tr)) (C:List (SV×SV)) (t:Tr) (hc:c<=1) (hO:∀y∈O,y∈R) (hl:(sizeL t.kids:Int)<=left/\left<=2097152/\(sizeL t.kids:Int)<=5000),((sizeL t.kids:Int))<T->∀{Z0 h:Hp} {l:List Asrt},St Z0 (hgA Γ c O R ((Prod.mk p t)::S) C::own LF (.cells [iV left] 3)::l) h->Runs Tryz.prog Γ (.call 93 [(oneS p),.ptr LF 0] h) λoq=>∃Z',Sub Z0 Z'/\Mf Γ p LF left c O R S C t l Z' oq.v oq.hp
abbrev Qk(Γ:Glob)(p:SV)(LF:Nat)(left:Int)(c:Nat)(O R S:List (SV×Tr))(C:List (SV×SV))(t:Tr)(T:Int):TG:=λl Zq vq hq=>∃left2:Int,(left2=left-(sizeL t.kids:Int))/\vq=bV true/\St Zq (hgA Γ c O R S C::own LF (.cells [iV left2] 3)::l) hq
noncomputable abbrev SQ(Γ:Glob)(p:SV)(LF:Nat)(left:Int)(c:Nat)(O R S:List (SV×Tr))(C:List (SV×SV))(t:Tr)(T:Int)(Z0:Hp)(l:List Asrt):Cx:=fnC Tryz.prog Γ Tryz.f93 2 [] (d4 Z0::l) (dz Z0 (Qk Γ p LF left c O R S C t T l))
theorem Mk(p:SV)(LF:Nat)(left:Int)(c:Nat)(O R S:List (SV×Tr))(C:List (SV×SV))(t:Tr)(T:Int)(hc:c<=1)(hO:∀y∈O,y∈R)(hl:(sizeL t.kids:Int)<=left/\left<=2097152/\(sizeL t.kids:Int)<=5000)(hT:((sizeL t.kids:Int))<=T)(IHseparate_runs:Mb T)(K0 K3:SV)(K7 v10 K11:SV)(B13:Nat):∀(m:Nat) (Z:Hp) (ix lf:Int) (hi:0<=ix/\ix<=(t.kids.length:Int)/\0<(t.kids.length:Int)/\lf=left-(sizeL t.kids:Int)+((sizeL (t.kids.drop ix.toNat):Int)-((t.kids.length:Int)-ix))) (hm:((t.kids.length:Int)-ix).toNat<m),den (SQ Γ p LF left c O R S C t T Z0 l) (.stop [0,1,0,1,1,1,1,1,1] zz2 [.asr 10,.asr 9,.asr 11,.blk 0 [vI 7] 3]) ⟨8,0,0,6,1,12⟩ (va {i:=[left,(t.kids.length:Int),(t.kids.length:Int),(t.kids.length:Int),(t.kids.length:Int),(t.kids.length:Int),ix,lf],r:=[p,K0,K3,K7,v10,K11],n:=[LF],a:=[hgA Γ c O R ((Prod.mk p t)::S) C,br Γ (oneS K0) t.kids,br Γ (oneS K3) t.kids,br Γ (oneS K7) t.kids,nlA Γ (oneS v10) (List.replicate (Int.toNat (t.kids.length:Int)) (Tr.mk ndZ [])),br Γ (oneS K11) t.kids,nlA Γ (oneS v10) t.kids,br Γ (oneS K11) t.kids,hgA Γ 0 [] (dU B13 t.kids) (List.drop (Int.toNat 0) (dU B13 t.kids)) [],liA (oneS v10) B13 t.kids,hgA Γ 0 [] (dU B13 t.kids) (List.drop (Int.toNat ix) (dU B13 t.kids)) [],hgA Γ c O R ((Prod.mk p t)::S) C]}) Z:=by
 intro m
 induction m with
 |zero=>intros;omega
 |succ m ih=>
  intro Z ix lf hi hm;refine cZ [0,1,0,1,1,1,1,1,1] zz2 [.asr 10,.asr 9,.asr 11,.blk 0 [vI 7] 3] [] ⟨8,0,0,6,1,12⟩ (.fork (.lt (.v 6) (.v 5)) (.row (.idxA 83 (.raw 4) (vI 6)) [.asr 9] (.raw 6) ⟨8,0,0,7,1,12⟩<|.swap [.asr 10] [.asr 12] ⟨8,0,0,7,1,13⟩<|.call 93 [.raw 6,.ptr 0 0] [.asr 12,.blk 0 [vI 7] 3] (TB) [.asr 13,.blk 0 [vI 8] 3] ⟨9,0,0,7,1,14⟩<|.vc (xI (.add (.v 6) (.z 1)))<|.stop [0,1,0,1,1,1,1,1,1] [(0,.raw 0),(1,.ptr 0 0),(5,.raw 4),(43,vI 5),(44,I (.add (.v 6) (.z 1)))] [.asr 13,.asr 9,.asr 11,.blk 0 [vI 8] 3])<|.row (.nil (.raw 0)) [.asr 11] (.raw 0) ⟨8,0,0,6,1,12⟩<|.row (.fld 85 (.raw 0) 5) [.asr 11] (.pad 0 21) ⟨8,0,0,6,1,12⟩<|.eff (.store 83 (.pad 0 21) (.raw 4)) [.asr 11,.asr 10,.asr 9] (.lit (.tuple #[])) [.asr 12] ⟨8,0,0,6,1,13⟩<|.ret (TB) [.asr 12,.blk 0 [vI 7] 3]) 100000 bm (λ_ h=>by cases h) ?_;refine bo (ix<(t.kids.length:Int)) rfl (λcd1=>?_) λcd1=>?_
  .refine drT {r:=[(ip B13 ix)]} (λl h hs=>wi (m:=l) (h:=h) (i:=ix) rfl Kz0 Kz0 hs) ?_;refine dsU {a:=[hgA Γ 0 [] (dU B13 t.kids) ((Prod.mk (ip B13 ix) (lget t.kids ix))::(List.drop (Int.toNat (ix+1)) (dU B13 t.kids))) []]} (λl h hs=>I5 Kz0 Kz0 (hs) (m:=l) (h:=h)) ?_;refine bS (λ(left2102:Int)=>{i:=[left2102],a:=[hgA Γ 0 ([]) (dU B13 t.kids) (List.drop (Int.toNat (ix+1)) (dU B13 t.kids)) ([])]}) _ (λl h hs=>IHseparate_runs (h:=h) (l:=l) Γ (ip B13 ix) LF lf 0 ([]) (dU B13 t.kids) (List.drop (Int.toNat (ix+1)) (dU B13 t.kids)) ([]) (lget t.kids ix) Kz0 Kz0 Kz0 Kz0 hs) λZ left2102 qd102=>?_;refine bE (show I6 (ix+1)from Kz0) ?_;exact bu (ih _ (ix+1) left2102 Kz0 Kz0) rfl rfl
  .refine drT {} (λl h hs=>lu (m:=l) (h:=h) (p:=p) (ak ..) hs) ?_;refine drT {} (λl h hs=>jy (m:=l) (h:=h) (p:=p) (λ_ _=>rfl) (ak ..) hs) ?_;refine dJ (λ(_:Unit)=>{a:=[hgA Γ c O R S C]}) (λ_=>True) (λl h hs=>Mj (m:=l) (h:=h) (i:=ix) rfl Kz0 Kz0 Kz0 hs) λ_ _=>?_;exact an λh hs=>⟨lf,Kz0,Kz1,Kz2⟩
theorem Sk(p:SV)(LF:Nat)(left:Int)(c:Nat)(O R S:List (SV×Tr))(C:List (SV×SV))(t:Tr)(T:Int)(hc:c<=1)(hO:∀y∈O,y∈R)(hl:(sizeL t.kids:Int)<=left/\left<=2097152/\(sizeL t.kids:Int)<=5000)(hT:((sizeL t.kids:Int))<=T)(IHseparate_runs:Mb T)(hs:St Z0 (hgA Γ c O R ((Prod.mk p t)::S) C::own LF (.cells [iV left] 3)::l) h):RC Γ Z0 93 [(oneS p),.ptr LF 0] h (Qk Γ p LF left c O R S C t T l):=by
 refine bL Tryz.f93 Tryz.func93 [.raw 0,.ptr 0 0] [.asr 0,.blk 0 [vI 0] 3] ⟨1,0,0,1,1,1⟩ (va {i:=[left],r:=[p],n:=[LF],a:=[hgA Γ c O R ((Prod.mk p t)::S) C]}) (.row (.nil (.raw 0)) [.asr 0] (.raw 0) ⟨1,0,0,1,1,1⟩<|.row (.fld 85 (.raw 0) 5) [.asr 0] (.pad 0 21) ⟨1,0,0,1,1,1⟩<|.row (.load 83 (.pad 0 21)) [.asr 0] (.raw 1) ⟨1,0,0,2,1,1⟩<|.swap [] [.asr 1] ⟨1,0,0,2,1,2⟩<|.row (.len 83 (.raw 1)) [.asr 1] (vI 1) ⟨2,0,0,2,1,2⟩<|.vc (xI (.sub (.v 0) (.v 1)))<|.fork (.lt (.sub (.v 0) (.v 1)) (.z 0)) (.ret (TA) [.asr 0,.blk 0 [I (.sub (.v 0) (.v 1))] 3])<|.row (.nil (.raw 0)) [.asr 0] (.raw 0) ⟨2,0,0,2,1,2⟩<|.row (.fld 85 (.raw 0) 5) [.asr 0] (.pad 0 21) ⟨2,0,0,2,1,2⟩<|.row (.load 83 (.pad 0 21)) [.asr 0] (.raw 2) ⟨2,0,0,3,1,2⟩<|.swap [] [.asr 2] ⟨2,0,0,3,1,3⟩<|.row (.len 83 (.raw 2)) [.asr 2] (vI 2) ⟨3,0,0,3,1,3⟩<|.fork (.eq (.v 2) (.z 0)) (.row (.nil (.raw 0)) [.asr 0] (.raw 0) ⟨3,0,0,3,1,3⟩<|.row (.fld 85 (.raw 0) 5) [.asr 0] (.pad 0 21) ⟨3,0,0,3,1,3⟩<|.eff (.store 83 (.pad 0 21) (.lit mt)) [.asr 0] (.lit (.tuple #[])) [.asr 3] ⟨3,0,0,3,1,4⟩<|.ret (TB) [.asr 3,.blk 0 [I (.sub (.v 0) (.v 1))] 3])<|.row (.nil (.raw 0)) [.asr 0] (.raw 0) ⟨3,0,0,3,1,3⟩<|.row (.fld 85 (.raw 0) 5) [.asr 0] (.pad 0 21) ⟨3,0,0,3,1,3⟩<|.row (.load 83 (.pad 0 21)) [.asr 0] (.raw 3) ⟨3,0,0,4,1,3⟩<|.swap [] [.asr 3] ⟨3,0,0,4,1,4⟩<|.row (.len 83 (.raw 3)) [.asr 3] (vI 3) ⟨4,0,0,4,1,4⟩<|.eff (.mks 83 (vI 3) (vI 3)) [] (.raw 4) [.asr 4] ⟨4,0,0,5,1,5⟩<|.row (.nil (.raw 0)) [.asr 0] (.raw 0) ⟨4,0,0,5,1,5⟩<|.row (.fld 85 (.raw 0) 5) [.asr 0] (.pad 0 21) ⟨4,0,0,5,1,5⟩<|.row (.load 83 (.pad 0 21)) [.asr 0] (.raw 5) ⟨4,0,0,6,1,5⟩<|.swap [] [.asr 5] ⟨4,0,0,6,1,6⟩<|.eff (.copy 83 (.raw 4) (.raw 5)) [.asr 4,.asr 5] (vI 4) [.asr 6,.asr 7] ⟨5,0,0,6,1,8⟩<|.row (.len 83 (.raw 4)) [.asr 6] (vI 5) ⟨6,0,0,6,1,8⟩<|.swap [.asr 6] [.asr 8,.asr 9] ⟨6,0,0,6,1,10⟩<|.stop [0,1,0,1,1,1,1,1,1] [(0,.raw 0),(1,.ptr 0 0),(5,.raw 4),(43,vI 5),(44,Fd)] [.asr 8,.asr 9,.asr 0,.blk 0 [I (.sub (.v 0) (.v 1))] 3]) hs ?_;refine drT {} (λl h hs=>lu (m:=l) (h:=h) (p:=p) (ak ..) hs) ?_;refine drT {} (λl h hs=>jy (m:=l) (h:=h) (p:=p) (λ_ _=>rfl) (ak ..) hs) ?_;refine nV (λ(K0:SV)=>{r:=[K0]}) (λ(K0:SV)=>KidsOf Γ Z0 (oneS K0) t.kids/\((p,t)∈O->2<=c->NilK K0 t.kids)) (λl h hs=>lQ (m:=l) (h:=h) (p:=p) rfl (ak ..) hs) λK0 kd0=>?_;have kz0:=kd0.2;refine dsU {a:=[br Γ (oneS K0) t.kids]} (λl h hs=>co kd0.1 (hs) (m:=l) (h:=h)) ?_;refine dD {i:=[(t.kids.length:Int)]} _ (λl h hs=>dN (m:=l) (h:=h) hs) λkl2=>?_;refine bE (show I6 (left-(t.kids.length:Int))from Kz0) ?_;refine bo ((left-(t.kids.length:Int))<0) rfl (λcd1=>?_) λcd1=>?_
 .exact an λh hs=>⟨(left-(t.kids.length:Int)),Kz0,Kz1,Kz2⟩
 .refine drT {} (λl h hs=>lu (m:=l) (h:=h) (p:=p) (ak ..) hs) ?_;refine drT {} (λl h hs=>jy (m:=l) (h:=h) (p:=p) (λ_ _=>rfl) (ak ..) hs) ?_;refine nV (λ(K3:SV)=>{r:=[K3]}) (λ(K3:SV)=>KidsOf Γ Z0 (oneS K3) t.kids/\((p,t)∈O->2<=c->NilK K3 t.kids)) (λl h hs=>lQ (m:=l) (h:=h) (p:=p) rfl (ak ..) hs) λK3 kd3=>?_;have kz3:=kd3.2;refine dsU {a:=[br Γ (oneS K3) t.kids]} (λl h hs=>co kd3.1 (hs) (m:=l) (h:=h)) ?_;refine dD {i:=[(t.kids.length:Int)]} _ (λl h hs=>dN (m:=l) (h:=h) hs) λkl5=>?_;refine bo ((t.kids.length:Int)=0) rfl (λcd2=>?_) λcd2=>?_
  .refine drT {} (λl h hs=>lu (m:=l) (h:=h) (p:=p) (ak ..) hs) ?_;refine drT {} (λl h hs=>jy (m:=l) (h:=h) (p:=p) (λ_ _=>rfl) (ak ..) hs) ?_;refine dJ (λ(_:Unit)=>{a:=[hgA Γ c O R S C]}) (λ_=>True) (λl h hs=>IM (m:=l) (h:=h) rfl Kz0 hs) λ_ _=>?_;exact an λh hs=>⟨(left-(t.kids.length:Int)),Kz0,Kz1,Kz2⟩
  .refine drT {} (λl h hs=>lu (m:=l) (h:=h) (p:=p) (ak ..) hs) ?_;refine drT {} (λl h hs=>jy (m:=l) (h:=h) (p:=p) (λ_ _=>rfl) (ak ..) hs) ?_;refine nV (λ(K7:SV)=>{r:=[K7]}) (λ(K7:SV)=>KidsOf Γ Z0 (oneS K7) t.kids/\((p,t)∈O->2<=c->NilK K7 t.kids)) (λl h hs=>lQ (m:=l) (h:=h) (p:=p) rfl (ak ..) hs) λK7 kd7=>?_;have kz7:=kd7.2;refine dsU {a:=[br Γ (oneS K7) t.kids]} (λl h hs=>co kd7.1 (hs) (m:=l) (h:=h)) ?_;refine dD {i:=[(t.kids.length:Int)]} _ (λl h hs=>dN (m:=l) (h:=h) hs) λkl9=>?_;refine dJ (λ(v10:SV)=>{r:=[v10],a:=[nlA Γ (oneS v10) (List.replicate (Int.toNat (t.kids.length:Int)) (Tr.mk ndZ []))]}) (λ_=>True) (λl h hs=>IX (m:=l) (h:=h) (n:=(t.kids.length:Int)) rfl Kz0 Kz0 hs) λv10 _=>?_;refine drT {} (λl h hs=>lu (m:=l) (h:=h) (p:=p) (ak ..) hs) ?_;refine drT {} (λl h hs=>jy (m:=l) (h:=h) (p:=p) (λ_ _=>rfl) (ak ..) hs) ?_;refine nV (λ(K11:SV)=>{r:=[K11]}) (λ(K11:SV)=>KidsOf Γ Z0 (oneS K11) t.kids/\((p,t)∈O->2<=c->NilK K11 t.kids)) (λl h hs=>lQ (m:=l) (h:=h) (p:=p) rfl (ak ..) hs) λK11 kd11=>?_;have kz11:=kd11.2;refine dsU {a:=[br Γ (oneS K11) t.kids]} (λl h hs=>co kd11.1 (hs) (m:=l) (h:=h)) ?_;refine dJ (λ(_:Unit)=>{i:=[(t.kids.length:Int)],a:=[nlA Γ (oneS v10) t.kids,br Γ (oneS K11) t.kids]}) (λ_=>True) (λl h hs=>Hi (m:=l) (h:=h) rfl Kz0 Kz0 hs) λ_ _=>?_;refine drT {i:=[(t.kids.length:Int)]} (λl h hs=>L4 (l:=l) (h:=h) rfl (λ_=>rfl) hs) ?_;refine bQ (α:=Nat) (λ(B13:Nat)=>{a:=[hgA Γ 0 [] (dU B13 t.kids) (List.drop (Int.toNat 0) (dU B13 t.kids)) [],liA (oneS v10) B13 t.kids]}) (λ(B13:Nat)=>True) (λl h hs=>JM (hs) (m:=l) (h:=h)) λB13 qs14=>?_;exact bu (Mk Γ p LF left c O R S C t T hc hO hl hT IHseparate_runs K0 K3 K7 v10 K11 B13 _ _ 0 (left-(t.kids.length:Int)) Kz0 (aq _)) rfl rfl
theorem Q0:∀T:Nat,Mb (T:Int)
 |0=>λΓ _ p LF left c O R S C t hc hO hl hT=>by omega
 |T+1=>λΓ _ p LF left c O R S C t hc hO hl hT Z0 h l hs=>Sk Γ p LF left c O R S C t (T:Int) hc hO hl bj (Q0 T) hs
theorem SC(p:SV)(LF:Nat)(left:Int)(c:Nat)(O R S:List (SV×Tr))(C:List (SV×SV))(t:Tr)(hc:c<=1)(hO:∀y∈O,y∈R)(hl:(sizeL t.kids:Int)<=left/\left<=2097152/\(sizeL t.kids:Int)<=5000)(hs:St Z0 (hgA Γ c O R ((Prod.mk p t)::S) C::own LF (.cells [iV left] 3)::l) h):RC Γ Z0 93 [(oneS p),.ptr LF 0] h (Mf Γ p LF left c O R S C t l):=by
 exact Q0 (((sizeL t.kids:Int)).toNat+1) Γ p LF left c O R S C t hc hO hl bj hs
abbrev QJ:List MI:=[.blk 0 (nX 0 0 0 (.raw 0)) 85,.asr 0]
abbrev QK:List XV:=(nX 31 4 16 (.raw 5))
abbrev PI:List XV:=(nX 45 6 21 (.raw 7))
abbrev Qi:List XV:=(nX 15 2 5 (.raw 1))
abbrev PZ:List XV:=(nX 0 0 4 (.raw 1))
abbrev Er:List (Nat×XV):=[(0,.ptr 0 0),(1,.raw 0),(7,I (.sub (.v 14) (.z 1))),(69,vI 15),(70,I (.add (.v 16) (.z 1)))]
abbrev MU:List MI:=[.asr 16,.asr 17,.asr 18,.blk 0 [.map 1,.fn 166 [] [.ptr 2 0]] 259,.blk 2 [vB 15] 4]
abbrev Nk:List MI:=[.asr 19,.asr 13,.blk 0 [.map 1,.fn 166 [] [.ptr 2 0]] 259,.blk 2 [vB 15] 4,.asr 17]
abbrev Pk:List MI:=[.asr 28,.asr 13,.blk 0 [.map 1,.fn 166 [] [.ptr 2 0]] 259,.blk 2 [vB 15] 4,.asr 26]
abbrev Ko:List MI:=[.asr 22,.asr 13,.blk 0 [.map 1,.fn 166 [] [.ptr 2 0]] 259,.blk 2 [vB 15] 4,.asr 17]
abbrev Kv:List MI:=[.asr 15,.asr 16,.blk 0 [.map 1,.fn 166 [] [.ptr 2 0]] 259,.blk 2 [vB 9] 4,.asr 14]
abbrev CC:List MI:=[.asr 11,.asr 12,.blk 0 [.map 1,.fn 166 [] [.ptr 2 0]] 259,.blk 2 [vB 9] 4,.asr 10]
abbrev Ie:List MI:=[.asr 15,.blk 0 [.map 1,.fn 166 [] [.ptr 2 0]] 259,.blk 2 [vB 9] 4,.asr 10,.asr 11]
abbrev KM:List MI:=[.asr 3,.blk 0 [.map 1,.fn 166 [] [.ptr 2 0]] 259,.blk 2 [vB 1] 4,.asr 1,.asr 2]
abbrev KJ:List MI:=[.asr 5,.blk 0 [.map 1,.fn 166 [] [.ptr 2 0]] 259,.blk 2 [vB 2] 4,.asr 3,.asr 4]
abbrev KV:List MI:=[.asr 9,.asr 7,.blk 0 [.map 1,.fn 166 [] [.ptr 2 0]] 259,.blk 2 [vB 2] 4,.asr 3]
abbrev KU:List (Nat×XV):=[(0,.ptr 0 0),(1,.raw 0),(7,I (.sub (.v 14) (.z 1))),(69,vI 15),(70,vI 16)]
abbrev KF:List (Nat×XV):=[(0,.ptr 0 0),(1,.raw 0),(7,I (.sub (.v 14) (.z 1))),(9,I (.add (.v 17) (.z 2)))]
abbrev KB:List (Nat×XV):=[(0,.ptr 0 0),(1,.raw 0),(7,I (.sub (.v 14) (.z 1))),(9,vI 17)]
abbrev KT:List (Nat×XV):=[(0,.ptr 0 0),(1,.raw 0),(46,vI 14),(47,vI 15)]
abbrev o7:List XV:=[.map 1,.fn 166 [] [.ptr 2 0]]
abbrev tX:List (Nat×XV):=[(0,.ptr 0 0),(1,.raw 0)]
theorem cu{P:Prop}(h:P:=by first|omega|(and_intros<;>intros<;>and_intros<;>first|omega|assumption|(have w1:=Fm (x:=ix) bj (by assumption);omega)|(have w1:=gt t.kids;omega)|(have w1:=Jy (ks:=t.kids) (i:=ix) bj bj;omega)|(have w1:=uB (ks:=t.kids) (i:=ix) bj;omega)|(have w1:=Cr t.kids;omega)|(have w1:=Jp (t:=t) (by simp_all);omega)|exact V1)):P:=h
theorem JF{P:Prop}(h:P:=by first|omega|(and_intros<;>intros<;>and_intros<;>first|omega|assumption|exact λy hy=>by rw[List.mem_singleton.1 hy];exact List.mem_singleton.2 rfl|(have w1:=fa x ks;show(sizeL ks:Int)<=_;omega)|exact av _|exact V1)):P:=h
theorem Ly{P:Prop}(h:P:=by first|rfl|(show(bV false:SV)=_;clear hs;simp[ib, *];done)|(show(bV false:SV)=_;clear hs;simp_all[ib];done)):P:=h
abbrev O0(Γ:Glob)(x:ND)(L:SV)(ks:List Tr):TG:=λl Zq vq hq=>∃w:SV,(True)/\vq=.agg (ndL x (oneS w))/\St Zq (br Γ (oneS L) ks::br Γ (oneS w) ks::l) hq
theorem CD(x:ND)(L:SV)(ks:List Tr)(hz:(sizeL ks:Int)<=5000)(hs:St Z0 (br Γ (oneS L) ks::l) h):RC Γ Z0 56 [.agg (ndL x (oneS L))] h (O0 Γ x L ks l):=by
 refine bL Tryz.f56 Tryz.func56 [.agg TQ] [.asr 0] ⟨14,2,5,1,0,1⟩ (va {TD x L with a:=[br Γ (oneS L) ks]}) (.new<|.new<|.new<|.swap QJ [.asr 1,.asr 2] ⟨14,2,5,1,3,3⟩<|.call 93 [.ptr 0 0,.ptr 2 0] [.asr 1,.blk 2 [I (.z 2097152)] 3] (TB) [.asr 3,.blk 2 [vI 14] 3] ⟨15,2,5,1,3,4⟩<|.swap [.asr 3] [.blk 0 Qi 85,.asr 4] ⟨29,4,10,2,3,5⟩<|.ret (.agg Qi) [.asr 2,.asr 4]) hs ?_;refine bA λbk0=>?_;refine bA λbk1=>?_;refine bA λbk2=>?_;refine dsU {a:=[hgA Γ 1 [(.ptr bk0 0,Tr.mk x ks)] [(.ptr bk0 0,Tr.mk x ks)] ((Prod.mk (.ptr bk0 0) (Tr.mk x ks))::[]) [],br Γ (oneS L) ks]} (λl h hs=>Fl (c:=1) (x:=x) rfl JF (hs) (m:=l) (h:=h)) ?_;refine bS (λ(left22:Int)=>{i:=[left22],a:=[hgA Γ 1 ([(.ptr bk0 0,Tr.mk x ks)]) ([(.ptr bk0 0,Tr.mk x ks)]) ([]) ([])]}) _ (λl h hs=>(by have hr:=SC Γ (.ptr bk0 0) bk2 2097152 1 ([(.ptr bk0 0,Tr.mk x ks)]) ([(.ptr bk0 0,Tr.mk x ks)]) ([]) ([]) (Tr.mk x ks) JF JF JF (Z0:=Z0) (l:=l) (h:=h) TP;first|exact hr|(simp only[RC,bN,bP]at hr;exact hr)|(simp only[RC,bN,bP,Mf]at hr;exact hr))) λZ left22 qd2=>?_;refine jt (λ(K3:SV)=>{TD x K3 with a:=[br Γ (oneS K3) ks]}) (λ(K3:SV)=>2<=1->NilK K3 ks) (λl h hs=>CJ (hs) (m:=l) (h:=h)) λZ K3 qk3=>?_;exact an λh hs=>⟨K3,TH,rfl,hs⟩
def ib(t:Tr):Bool:=decide (t.nd.k=4)&&(decide (t.nd.name=[76,69,84])&&(decide (3<=(t.kids.length:Int))&&decide (Int.tmod (t.kids.length:Int) 2=1)))
theorem Jp{t:Tr}(h:ib t=true):3<=(t.kids.length:Int):=by
 unfold ib at h;simp only[a8,ba]at h;exact h.2.2.1
structure MB(M:List (bn×Int))(b:Int):Prop where
 a:∀k,-b<=mget M k/\mget M k<=b
theorem Tw:MB [] 0:=⟨λk=>by show-0<=(0:Int)/\(0:Int)<=0;omega⟩
theorem MB.le{M:List (bn×Int)}{b c:Int}(w:MB M b)(h:b<=c):MB M c:=⟨λk=>by have:=w.a k;omega⟩
theorem MB.set{M:List (bn×Int)}{b:Int}{k:bn}{v:Int}(w:MB M b)(h: -(b+1)<=v/\v<=b+1)(hb:0<=b):MB (mset M k v) (b+1):=⟨λk'=>by
 rw[ot];split
 .exact h
 .have:=w.a k';omega⟩
def mbA(M:List (bn×Int))(b:Int):Asrt:=frA (λ_=>MB M b) λ_ w=>w
section
variable {Z h:Hp}{m:List Asrt}{M:List (bn×Int)}{b c:Int}
theorem pS(k:bn)(s:St Z (mbA M b::m) h):(-b<=mget M k/\mget M k<=b)/\St Z (mbA M b::m) h:=⟨(cX.1 s).1.a k,s⟩
theorem e9(hb:b<=c)(s:St Z (mbA M b::m) h):St Z (mbA M c::m) h:=cX.2 ⟨(cX.1 s).1.le hb,(cX.1 s).2⟩
theorem Ab{k:bn}{v:Int}(hv:v=mget M k+1\/v=mget M k-1)(hb:0<=b)(s:St Z (mbA M b::m) h):St Z (mbA (mset M k v) (b+1)::m) h:=by
 have w:=(cX.1 s).1;have h1:=w.a k;exact cX.2 ⟨w.set bj hb,(cX.1 s).2⟩
theorem Ng(s:St Z m h):St Z (mbA [] 0::m) h:=cX.2 ⟨Tw,s⟩
end
abbrev Rj(Γ:Glob)(p:SV)(t:Tr):TG:=λl Zq vq hq=>(True)/\vq=bV (ib t)/\St Zq (bB Γ (oneS p) t::l) hq
theorem Ql(p:SV)(t:Tr)(hk:(t.kids.length:Int)<=1900000)(hs:St Z0 (bB Γ (oneS p) t::l) h):RC Γ Z0 220 [(oneS p)] h (Rj Γ p t l):=by
 refine bL Tryz.f220 Tryz.func220 [.raw 0] [.asr 0] ⟨0,0,0,1,0,1⟩ (va {r:=[p],a:=[bB Γ (oneS p) t]}) (.swap [.asr 0] [.asr 1] ⟨0,0,0,1,0,2⟩<|.win 0 (nX 0 0 0 (.raw 1)) ⟨14,2,5,2,0,2⟩<|.swap [] [.asr 2] ⟨14,2,5,2,0,3⟩<|.fork (.eq (.v 0) (.z 4)) (.fork (.teq (.tv 1) (.tl [76,69,84])) (.row (.len 83 (.raw 1)) [.asr 2] (vI 14) ⟨15,2,5,2,0,3⟩<|.fork (.le (.z 3) (.v 14)) (.row (.len 83 (.raw 1)) [.asr 2] (vI 15) ⟨16,2,5,2,0,3⟩<|.ret (.bool (.eq (.rem (.v 15) (.z 2)) (.z 1))) [.asr 1])<|.ret (TA) [.asr 1])<|.ret (TA) [.asr 1])<|.ret (TA) [.asr 1]) hs ?_;refine bQ (α:=Unit) (λ(_:Unit)=>{a:=[bB Γ (oneS p) t]}) (λ(_:Unit)=>TreeAt Γ Z0 (oneS p) t) (λl h hs=>⟨(),cN (hs) (m:=l) (h:=h)⟩) λ_ qs1=>?_;obtain⟨L0,wu0,ku0⟩:=dc qs1;refine fk (TD t.nd L0) wu0 ?_;refine dsU {a:=[br Γ (oneS L0) t.kids]} (λl h hs=>co ku0 (hs) (m:=l) (h:=h)) ?_;refine bo (t.nd.k=4) rfl (λcd1=>?_) λcd1=>?_
 .refine bo (t.nd.name=([76,69,84]:bn)) rfl (λcd2=>?_) λcd2=>?_
  .refine dD {i:=[(t.kids.length:Int)]} _ (λl h hs=>dN (m:=l) (h:=h) hs) λkl3=>?_;refine bo (3<=(t.kids.length:Int)) rfl (λcd3=>?_) λcd3=>?_
   .refine dD {i:=[(t.kids.length:Int)]} _ (λl h hs=>dN (m:=l) (h:=h) hs) λkl4=>?_;exact an λh hs=>⟨TH,by first|rfl|(show(bV (decide ((Int.tmod (t.kids.length:Int) 2)=1)):SV)=_;clear hs;simp[ib, *];done)|(show(bV (decide ((Int.tmod (t.kids.length:Int) 2)=1)):SV)=_;clear hs;simp_all[ib];done),hs⟩
   .exact an λh hs=>⟨TH,Ly,hs⟩
  .exact an λh hs=>⟨TH,Ly,hs⟩
 .exact an λh hs=>⟨TH,Ly,hs⟩
abbrev On(Γ:Glob)(x:SV)(SM:Nat)(sm:Bool):TG:=λl Zq vq hq=>(True)/\vq=bV false/\St Zq (own SM (.cells [bV true] 4)::l) hq
theorem Oo(x:SV)(SM:Nat)(sm:Bool)(hs:St Z0 (own SM (.cells [bV sm] 4)::l) h):RC Γ Z0 166 [(oneS x),.ptr SM 0] h (On Γ x SM sm l):=by
 refine bL Tryz.f166 Tryz.func166 [.raw 0,.ptr 0 0] [.blk 0 [vB 0] 4] ⟨0,0,1,1,1,0⟩ (va {b:=[sm],r:=[x],n:=[SM]}) (.ret (TA) [.blk 0 [TB] 4]) hs ?_;exact an λh hs=>⟨TH,rfl,hs⟩
theorem Fm{x:Int}(h0:0<=x)(h:Int.tmod x 2=1):1<=x:=by
 by_cases e:x=0
 .rw[e]at h;exact absurd h (by decide)
 .omega
theorem Jy{ks:List Tr}{i:Int}(h0:0<=i)(h1:i<(ks.length:Int)):(sizeL (ks.drop i.toNat):Int)=(sizeL (lget ks i).kids:Int)+1+(sizeL (ks.drop (i+1).toNat):Int)/\(sizeL (ks.drop i.toNat):Int)+i<=(sizeL ks:Int)/\(ks.length:Int)-i-1<=(sizeL (ks.drop (i+1).toNat):Int):=by
 have h2:=xf h0 h1;omega
abbrev E2(Γ:Glob)(W:Nat)(p:SV)(told:Bool)(BM SM:Nat)(sm:Bool)(t:Tr)(M:List (bn×Int))(B:Int):TG:=λl Zq vq hq=>∃sm2:Bool,∃M2:List (bn×Int),(True)/\vq=.tuple []/\St Zq (bB Γ (oneS p) t::mpA tK iiE BM M2::mbA M2 (B+2*(sizeL t.kids:Int))::own W (.cells [.map BM,.func (.func 166) [] [.ptr SM 0]] 259)::own SM (.cells [bV sm2] 4)::l) hq
def yj(T:Int):Prop:=∀(Γ:Glob) [Mute Γ] (W:Nat) (p:SV) (told:Bool) (BM SM:Nat) (sm:Bool) (t:Tr) (M:List (bn×Int)) (B:Int) (hB:0<=B/\B+2*(sizeL t.kids:Int)<=1000000),((sizeL t.kids:Int))<T->∀{Z0 h:Hp} {l:List Asrt},St Z0 (bB Γ (oneS p) t::own W (.cells [.map BM,.func (.func 166) [] [.ptr SM 0]] 259)::own SM (.cells [bV sm] 4)::mpA tK iiE BM M::mbA M B::l) h->Runs Tryz.prog Γ (.call 167 [.ptr W 0,(oneS p),bV told] h) λoq=>∃Z',Sub Z0 Z'/\E2 Γ W p told BM SM sm t M B l Z' oq.v oq.hp
abbrev Ks(Γ:Glob)(W:Nat)(p:SV)(told:Bool)(BM SM:Nat)(sm:Bool)(t:Tr)(M:List (bn×Int))(B T:Int):TG:=λl Zq vq hq=>∃sm2:Bool,∃M2:List (bn×Int),(True)/\vq=.tuple []/\St Zq (bB Γ (oneS p) t::mpA tK iiE BM M2::mbA M2 (B+2*(sizeL t.kids:Int))::own W (.cells [.map BM,.func (.func 166) [] [.ptr SM 0]] 259)::own SM (.cells [bV sm2] 4)::l) hq
noncomputable abbrev BG(Γ:Glob)(W:Nat)(p:SV)(told:Bool)(BM SM:Nat)(sm:Bool)(t:Tr)(M:List (bn×Int))(B T:Int)(Z0:Hp)(l:List Asrt):Cx:=fnC Tryz.prog Γ Tryz.f167 3 [] (d4 Z0::l) (dz Z0 (Ks Γ W p told BM SM sm t M B T l))
theorem Jc(W:Nat)(p:SV)(told:Bool)(BM SM:Nat)(sm:Bool)(t:Tr)(M:List (bn×Int))(B T:Int)(hB:0<=B/\B+2*(sizeL t.kids:Int)<=1000000)(hT:((sizeL t.kids:Int))<=T)(IHwalk_runs:yj T)(sv:Bool)(L2:SV)(ix:Int)(sv:Bool)(G:List (bn×Int)):∀(m:Nat) (Z:Hp) (ix:Int) (G:List (bn×Int)) (hi:0<=ix/\ix<=(t.kids.length:Int)/\3<=(t.kids.length:Int)/\0<=B/\B+2*(sizeL t.kids:Int)<=1000000) (hm:((t.kids.length:Int)-ix).toNat<m),den (BG Γ W p told BM SM sm t M B T Z0 l) (.stop [0,1,1,1,1,1] KB Kv) ⟨18,2,10,2,3,17⟩ (va {i:=[t.nd.k,t.nd.v0,t.nd.v1,t.nd.v2,t.nd.v5,t.nd.a0,t.nd.a1,t.nd.a2,t.nd.a3,t.nd.b0,t.nd.b1,t.nd.b2,t.nd.b3,t.nd.rows,(t.kids.length:Int),(t.kids.length:Int),ix,ix],t:=[t.nd.v3,t.nd.name],b:=[told,sm,sv,(ib t),t.nd.v4,t.nd.a4,t.nd.a5,t.nd.b4,t.nd.b5,sv],r:=[p,L2],n:=[W,BM,SM],a:=[bB Γ (oneS p) t,mpA tK iiE BM M,mbA M B,mpA tK iiE BM M,mbA M B,bB Γ (oneS p) t,bB Γ (oneS p) t,bB Γ (oneS p) t,br Γ (oneS L2) t.kids,mbA M (B+2*((sizeL t.kids:Int)-(sizeL (t.kids.drop (Int.toNat 0)):Int))-0),mpA tK iiE BM G,mbA G (B+2*((sizeL t.kids:Int)-(sizeL (t.kids.drop (Int.toNat ix)):Int))-ix),bB Γ (oneS p) t,mbA G (B+2*(sizeL t.kids:Int)-(t.kids.length:Int)+0),mpA tK iiE BM G,mbA G (B+2*(sizeL t.kids:Int)-(t.kids.length:Int)+ix),bB Γ (oneS p) t]}) Z:=by
 intro m
 induction m with
 |zero=>intros;omega
 |succ m ih=>
  intro Z ix G hi hm;refine cZ [0,1,1,1,1,1] KB Kv [] ⟨18,2,10,2,3,17⟩ (.fork (.lt (.v 17) (.sub (.v 14) (.z 1))) (.swap [.asr 16] [.asr 17] ⟨18,2,10,2,3,18⟩<|.win 0 (nX 18 2 10 (.raw 2)) ⟨32,4,15,3,3,18⟩<|.swap [] [.asr 18] ⟨32,4,15,3,3,19⟩<|.row (.idxA 83 (.raw 2) (vI 17)) [.asr 18] (.raw 3) ⟨32,4,15,4,3,19⟩<|.swap [] [.asr 19] ⟨32,4,15,4,3,20⟩<|.swap [.asr 19] [.asr 20] ⟨32,4,15,4,3,21⟩<|.win 3 (nX 32 4 15 (.raw 4)) ⟨46,6,20,5,3,21⟩<|.swap [] [.asr 21] ⟨46,6,20,5,3,22⟩<|.fork (.eq (.v 32) (.z 7)) (.row (.idxA 83 (.raw 2) (vI 17)) [.asr 18] (.raw 5) ⟨46,6,20,6,3,22⟩<|.swap [] [.asr 22] ⟨46,6,20,6,3,23⟩<|.swap [.asr 22] [.asr 23] ⟨46,6,20,6,3,24⟩<|.win 5 (nX 46 6 20 (.raw 6)) ⟨60,8,25,7,3,24⟩<|.swap [] [.asr 24] ⟨60,8,25,7,3,25⟩<|.swap [.asr 15] [.asr 25] ⟨60,8,25,7,3,26⟩<|.row (.look 256 (.map 1) (vT 7) false) [.asr 14] (vI 60) ⟨61,8,25,7,3,26⟩<|.vc (xI (.sub (.v 60) (.z 1)))<|.eff (.upd 256 (.map 1) (vT 7) (I (.sub (.v 60) (.z 1)))) [.asr 14] (.lit (.tuple #[])) [.asr 26] ⟨61,8,25,7,3,27⟩<|.vc (xI (.add (.v 17) (.z 2)))<|.swap [.asr 25] [.asr 27] ⟨61,8,25,7,3,28⟩<|.swap [.asr 27] [.asr 28] ⟨61,8,25,7,3,29⟩<|.stop [0,1,1,1,1,1] KF [.asr 28,.asr 17,.blk 0 o7 259,.blk 2 [vB 9] 4,.asr 26])<|.vc (xI (.add (.v 17) (.z 2)))<|.swap [.asr 15] [.asr 22] ⟨46,6,20,5,3,23⟩<|.stop [0,1,1,1,1,1] KF [.asr 22,.asr 17,.blk 0 o7 259,.blk 2 [vB 9] 4,.asr 14])<|.swap [.asr 15] [.asr 17] ⟨18,2,10,2,3,18⟩<|.ret (.tup []) [.asr 16,.asr 14,.asr 17,.blk 0 o7 259,.blk 2 [vB 9] 4]) 100000 bm (λ_ h=>by cases h) ?_;refine bo (ix<((t.kids.length:Int)-1)) rfl (λcd1=>?_) λcd1=>?_
  .refine bQ (α:=Unit) (λ(_:Unit)=>{a:=[bB Γ (oneS p) t]}) (λ(_:Unit)=>TreeAt Γ Z (oneS p) t) (λl h hs=>⟨(),cN (hs) (m:=l) (h:=h)⟩) λ_ qs301=>?_;obtain⟨L300,wu300,ku300⟩:=dc qs301;refine fk (TD t.nd L300) wu300 ?_;refine dsU {a:=[br Γ (oneS L300) t.kids]} (λl h hs=>co ku300 (hs) (m:=l) (h:=h)) ?_;refine dD {r:=[(bR (oneS L300) ix)]} _ (λl h hs=>fC (m:=l) (h:=h) (i:=ix) cu cu hs) λkd303=>?_;have kz303:=kd303.2;refine dsU {a:=[bB Γ (oneS (bR (oneS L300) ix)) (lget t.kids ix)]} (λl h hs=>eE kd303.1 (hs) (m:=l) (h:=h)) ?_;refine bQ (α:=Unit) (λ(_:Unit)=>{a:=[bB Γ (oneS (bR (oneS L300) ix)) (lget t.kids ix)]}) (λ(_:Unit)=>TreeAt Γ Z (oneS (bR (oneS L300) ix)) (lget t.kids ix)) (λl h hs=>⟨(),cN (hs) (m:=l) (h:=h)⟩) λ_ qs306=>?_;obtain⟨L305,wu305,ku305⟩:=dc qs306;refine fk (TD ((lget t.kids ix).nd) L305) wu305 ?_;refine dsU {a:=[br Γ (oneS L305) ((lget t.kids ix).kids)]} (λl h hs=>co ku305 (hs) (m:=l) (h:=h)) ?_;refine bo (((lget t.kids ix).nd.k)=7) rfl (λcd2=>?_) λcd2=>?_
   .refine dD {r:=[(bR (oneS L300) ix)]} _ (λl h hs=>fC (m:=l) (h:=h) (i:=ix) cu cu hs) λkd308=>?_;have kz308:=kd308.2;refine dsU {a:=[bB Γ (oneS (bR (oneS L300) ix)) (lget t.kids ix)]} (λl h hs=>eE kd308.1 (hs) (m:=l) (h:=h)) ?_;refine bQ (α:=Unit) (λ(_:Unit)=>{a:=[bB Γ (oneS (bR (oneS L300) ix)) (lget t.kids ix)]}) (λ(_:Unit)=>TreeAt Γ Z (oneS (bR (oneS L300) ix)) (lget t.kids ix)) (λl h hs=>⟨(),cN (hs) (m:=l) (h:=h)⟩) λ_ qs311=>?_;obtain⟨L310,wu310,ku310⟩:=dc qs311;refine fk (TD ((lget t.kids ix).nd) L310) wu310 ?_;refine dsU {a:=[br Γ (oneS L310) ((lget t.kids ix).kids)]} (λl h hs=>co ku310 (hs) (m:=l) (h:=h)) ?_;refine bQ (α:=Unit) (λ(_:Unit)=>{a:=[mbA G (B+2*(sizeL t.kids:Int)-(t.kids.length:Int)+ix)]}) (λ(_:Unit)=> -(B+2*(sizeL t.kids:Int)-(t.kids.length:Int)+ix)<=mget G ((lget t.kids ix).nd.name)/\mget G ((lget t.kids ix).nd.name)<=(B+2*(sizeL t.kids:Int)-(t.kids.length:Int)+ix)) (λl h hs=>⟨(),pS _ (hs) (m:=l) (h:=h)⟩) λ_ qs313=>?_;refine drT {i:=[(mget G ((lget t.kids ix).nd.name))]} (λl h hs=>mr (m:=l) (h:=h) (kc:=tK) (ve:=iiE) (L:=G) (k:=((lget t.kids ix).nd.name)) rfl gO rfl rfl hs) ?_;refine bE (show I6 ((mget G ((lget t.kids ix).nd.name))-1)from cu) ?_;refine dJ (λ(_:Unit)=>{a:=[mpA tK iiE BM (mset G ((lget t.kids ix).nd.name) ((mget G ((lget t.kids ix).nd.name))-1))]}) (λ_=>True) (λl h hs=>ic (m:=l) (h:=h) (k:=((lget t.kids ix).nd.name)) (x:=((mget G ((lget t.kids ix).nd.name))-1)) rfl gO hs rfl rfl) λ_ _=>?_;refine bE (show I6 (ix+2)from cu) ?_;refine dsU {a:=[mbA (mset G ((lget t.kids ix).nd.name) ((mget G ((lget t.kids ix).nd.name))-1)) (B+2*(sizeL t.kids:Int)-(t.kids.length:Int)+ix+1)]} (λl h hs=>Ab cu cu (hs) (m:=l) (h:=h)) ?_;refine dsU {a:=[mbA (mset G ((lget t.kids ix).nd.name) ((mget G ((lget t.kids ix).nd.name))-1)) (B+2*(sizeL t.kids:Int)-(t.kids.length:Int)+(ix+2))]} (λl h hs=>e9 cu (hs) (m:=l) (h:=h)) ?_;exact bu (ih _ (ix+2) (mset G ((lget t.kids ix).nd.name) ((mget G ((lget t.kids ix).nd.name))-1)) cu cu) rfl rfl
   .refine bE (show I6 (ix+2)from cu) ?_;refine dsU {a:=[mbA G (B+2*(sizeL t.kids:Int)-(t.kids.length:Int)+(ix+2))]} (λl h hs=>e9 cu (hs) (m:=l) (h:=h)) ?_;exact bu (ih _ (ix+2) G cu cu) rfl rfl
  .refine dsU {a:=[mbA G (B+2*(sizeL t.kids:Int))]} (λl h hs=>e9 cu (hs) (m:=l) (h:=h)) ?_;exact an λh hs=>⟨sv,G,cu,TS,hs⟩
theorem IO(W:Nat)(p:SV)(told:Bool)(BM SM:Nat)(sm:Bool)(t:Tr)(M:List (bn×Int))(B T:Int)(hB:0<=B/\B+2*(sizeL t.kids:Int)<=1000000)(hT:((sizeL t.kids:Int))<=T)(IHwalk_runs:yj T)(sv:Bool)(L8:SV):∀(m:Nat) (Z:Hp) (ix:Int) (sv:Bool) (G:List (bn×Int)) (hi:0<=ix/\ix<=(t.kids.length:Int)/\0<=B/\B+2*(sizeL t.kids:Int)<=1000000) (hm:((t.kids.length:Int)-ix).toNat<m),den (BG Γ W p told BM SM sm t M B T Z0 l) (.stop [0,1,0,0,1,0,1] KT CC) ⟨16,2,10,2,3,13⟩ (va {i:=[t.nd.k,t.nd.v0,t.nd.v1,t.nd.v2,t.nd.v5,t.nd.a0,t.nd.a1,t.nd.a2,t.nd.a3,t.nd.b0,t.nd.b1,t.nd.b2,t.nd.b3,t.nd.rows,(t.kids.length:Int),ix],t:=[t.nd.v3,t.nd.name],b:=[told,sm,sv,(ib t),t.nd.v4,t.nd.a4,t.nd.a5,t.nd.b4,t.nd.b5,sv],r:=[p,L8],n:=[W,BM,SM],a:=[bB Γ (oneS p) t,mpA tK iiE BM M,mbA M B,mpA tK iiE BM M,mbA M B,bB Γ (oneS p) t,bB Γ (oneS p) t,bB Γ (oneS p) t,br Γ (oneS L8) t.kids,mbA M (B+2*((sizeL t.kids:Int)-(sizeL (t.kids.drop (Int.toNat 0)):Int))-0),mpA tK iiE BM G,mbA G (B+2*((sizeL t.kids:Int)-(sizeL (t.kids.drop (Int.toNat ix)):Int))-ix),bB Γ (oneS p) t]}) Z:=by
 intro m
 induction m with
 |zero=>intros;omega
 |succ m ih=>
  intro Z ix sv G hi hm;refine cZ [0,1,0,0,1,0,1] KT CC [] ⟨16,2,10,2,3,13⟩ (.fork (.lt (.v 15) (.v 14)) (.swap [.asr 12] [.asr 13] ⟨16,2,10,2,3,14⟩<|.win 0 (nX 16 2 10 (.raw 2)) ⟨30,4,15,3,3,14⟩<|.swap [] [.asr 14] ⟨30,4,15,3,3,15⟩<|.row (.idxA 83 (.raw 2) (vI 15)) [.asr 14] (.raw 3) ⟨30,4,15,4,3,15⟩<|.swap [] [.asr 15] ⟨30,4,15,4,3,16⟩<|.call 167 [.ptr 0 0,.raw 3,TA] Ie (.tup []) MU ⟨30,4,16,4,3,19⟩<|.vc (xI (.add (.v 15) (.z 1)))<|.swap [.asr 18] [.asr 19] ⟨30,4,16,4,3,20⟩<|.stop [0,1,0,0,1,0,1] [(0,.ptr 0 0),(1,.raw 0),(46,vI 14),(47,I (.add (.v 15) (.z 1)))] Nk)<|.swap [.asr 11] [.asr 13] ⟨16,2,10,2,3,14⟩<|.ret (.tup []) [.asr 12,.asr 10,.asr 13,.blk 0 o7 259,.blk 2 [vB 9] 4]) 100000 bm (λ_ h=>by cases h) ?_;refine bo (ix<(t.kids.length:Int)) rfl (λcd1=>?_) λcd1=>?_
  .refine bQ (α:=Unit) (λ(_:Unit)=>{a:=[bB Γ (oneS p) t]}) (λ(_:Unit)=>TreeAt Γ Z (oneS p) t) (λl h hs=>⟨(),cN (hs) (m:=l) (h:=h)⟩) λ_ qs201=>?_;obtain⟨L200,wu200,ku200⟩:=dc qs201;refine fk (TD t.nd L200) wu200 ?_;refine dsU {a:=[br Γ (oneS L200) t.kids]} (λl h hs=>co ku200 (hs) (m:=l) (h:=h)) ?_;refine dD {r:=[(bR (oneS L200) ix)]} _ (λl h hs=>fC (m:=l) (h:=h) (i:=ix) cu cu hs) λkd203=>?_;have kz203:=kd203.2;refine dsU {a:=[bB Γ (oneS (bR (oneS L200) ix)) (lget t.kids ix)]} (λl h hs=>eE kd203.1 (hs) (m:=l) (h:=h)) ?_;refine dc2 (λ(sm2205:Bool) (M2205:(List (bn×Int)))=>{b:=[sm2205],a:=[bB Γ (oneS (bR (oneS L200) ix)) (lget t.kids ix),mpA tK iiE BM M2205,mbA M2205 ((B+2*((sizeL t.kids:Int)-(sizeL (t.kids.drop (Int.toNat ix)):Int))-ix)+2*(sizeL (lget t.kids ix).kids:Int))]}) _ (λl h hs=>IHwalk_runs (h:=h) (l:=l) Γ W (bR (oneS L200) ix) false BM SM sv (lget t.kids ix) G (B+2*((sizeL t.kids:Int)-(sizeL (t.kids.drop (Int.toNat ix)):Int))-ix) cu cu hs) λZ sm2205 M2205 qd205=>?_;refine bE (show I6 (ix+1)from cu) ?_;refine dsU {a:=[mbA M2205 (B+2*((sizeL t.kids:Int)-(sizeL (t.kids.drop (Int.toNat (ix+1))):Int))-(ix+1))]} (λl h hs=>e9 cu (hs) (m:=l) (h:=h)) ?_;exact bu (ih _ (ix+1) sm2205 M2205 cu cu) rfl rfl
  .refine dsU {a:=[mbA G (B+2*(sizeL t.kids:Int))]} (λl h hs=>e9 cu (hs) (m:=l) (h:=h)) ?_;exact an λh hs=>⟨sv,G,cu,TS,hs⟩
theorem Kj(W:Nat)(p:SV)(told:Bool)(BM SM:Nat)(sm:Bool)(t:Tr)(M:List (bn×Int))(B T:Int)(hB:0<=B/\B+2*(sizeL t.kids:Int)<=1000000)(hT:((sizeL t.kids:Int))<=T)(IHwalk_runs:yj T)(sv:Bool)(L2:SV):∀(m:Nat) (Z:Hp) (ix:Int) (sv:Bool) (G:List (bn×Int)) (hi:0<=ix/\ix<=(t.kids.length:Int)/\0<=B/\B+2*(sizeL t.kids:Int)<=1000000/\3<=(t.kids.length:Int)) (hm:((t.kids.length:Int)-ix).toNat<m),den (BG Γ W p told BM SM sm t M B T Z0 l) (.stop [0,1,0,1,1,1] KU CC) ⟨17,2,10,2,3,13⟩ (va {i:=[t.nd.k,t.nd.v0,t.nd.v1,t.nd.v2,t.nd.v5,t.nd.a0,t.nd.a1,t.nd.a2,t.nd.a3,t.nd.b0,t.nd.b1,t.nd.b2,t.nd.b3,t.nd.rows,(t.kids.length:Int),(t.kids.length:Int),ix],t:=[t.nd.v3,t.nd.name],b:=[told,sm,sv,(ib t),t.nd.v4,t.nd.a4,t.nd.a5,t.nd.b4,t.nd.b5,sv],r:=[p,L2],n:=[W,BM,SM],a:=[bB Γ (oneS p) t,mpA tK iiE BM M,mbA M B,mpA tK iiE BM M,mbA M B,bB Γ (oneS p) t,bB Γ (oneS p) t,bB Γ (oneS p) t,br Γ (oneS L2) t.kids,mbA M (B+2*((sizeL t.kids:Int)-(sizeL (t.kids.drop (Int.toNat 0)):Int))-0),mpA tK iiE BM G,mbA G (B+2*((sizeL t.kids:Int)-(sizeL (t.kids.drop (Int.toNat ix)):Int))-ix),bB Γ (oneS p) t]}) Z:=by
 intro m
 induction m with
 |zero=>intros;omega
 |succ m ih=>
  intro Z ix sv G hi hm;refine cZ [0,1,0,1,1,1] KU CC [] ⟨17,2,10,2,3,13⟩ (.fork (.lt (.v 16) (.v 15)) (.swap [.asr 12] [.asr 13] ⟨17,2,10,2,3,14⟩<|.win 0 (nX 17 2 10 (.raw 2)) ⟨31,4,15,3,3,14⟩<|.swap [] [.asr 14] ⟨31,4,15,3,3,15⟩<|.row (.idxA 83 (.raw 2) (vI 16)) [.asr 14] (.raw 3) ⟨31,4,15,4,3,15⟩<|.swap [] [.asr 15] ⟨31,4,15,4,3,16⟩<|.fork (.eq (.rem (.v 16) (.z 2)) (.z 0)) (.call 167 [.ptr 0 0,.raw 3,.bool (.lt (.v 16) (.sub (.v 14) (.z 1)))] Ie (.tup []) MU ⟨31,4,16,4,3,19⟩<|.fork (.eq (.rem (.v 16) (.z 2)) (.z 1)) (.vc (xI (.sub (.v 16) (.z 1)))<|.row (.idxA 83 (.raw 2) (I (.sub (.v 16) (.z 1)))) [.asr 14] (.raw 4) ⟨31,4,16,5,3,19⟩<|.swap [] [.asr 19] ⟨31,4,16,5,3,20⟩<|.swap [.asr 19] [.asr 20] ⟨31,4,16,5,3,21⟩<|.win 4 QK ⟨45,6,21,6,3,21⟩<|.swap [] [.asr 21] ⟨45,6,21,6,3,22⟩<|.fork (.eq (.v 31) (.z 7)) (.vc (xI (.sub (.v 16) (.z 1)))<|.row (.idxA 83 (.raw 2) (I (.sub (.v 16) (.z 1)))) [.asr 14] (.raw 6) ⟨45,6,21,7,3,22⟩<|.swap [] [.asr 22] ⟨45,6,21,7,3,23⟩<|.swap [.asr 22] [.asr 23] ⟨45,6,21,7,3,24⟩<|.win 6 PI ⟨59,8,26,8,3,24⟩<|.swap [] [.asr 24] ⟨59,8,26,8,3,25⟩<|.swap [.asr 18] [.asr 25] ⟨59,8,26,8,3,26⟩<|.row (.look 256 (.map 1) (vT 7) false) [.asr 17] (vI 59) ⟨60,8,26,8,3,26⟩<|.vc (xI (.add (.v 59) (.z 1)))<|.eff (.upd 256 (.map 1) (vT 7) (I (.add (.v 59) (.z 1)))) [.asr 17] (.lit (.tuple #[])) [.asr 26] ⟨60,8,26,8,3,27⟩<|.vc (xI (.add (.v 16) (.z 1)))<|.swap [.asr 25] [.asr 27] ⟨60,8,26,8,3,28⟩<|.swap [.asr 27] [.asr 28] ⟨60,8,26,8,3,29⟩<|.stop [0,1,0,1,1,1] Er Pk)<|.vc (xI (.add (.v 16) (.z 1)))<|.swap [.asr 18] [.asr 22] ⟨45,6,21,6,3,23⟩<|.stop [0,1,0,1,1,1] Er Ko)<|.vc (xI (.add (.v 16) (.z 1)))<|.swap [.asr 18] [.asr 19] ⟨31,4,16,4,3,20⟩<|.stop [0,1,0,1,1,1] Er Nk)<|.call 167 [.ptr 0 0,.raw 3,TA] Ie (.tup []) MU ⟨31,4,16,4,3,19⟩<|.fork (.eq (.rem (.v 16) (.z 2)) (.z 1)) (.vc (xI (.sub (.v 16) (.z 1)))<|.row (.idxA 83 (.raw 2) (I (.sub (.v 16) (.z 1)))) [.asr 14] (.raw 4) ⟨31,4,16,5,3,19⟩<|.swap [] [.asr 19] ⟨31,4,16,5,3,20⟩<|.swap [.asr 19] [.asr 20] ⟨31,4,16,5,3,21⟩<|.win 4 QK ⟨45,6,21,6,3,21⟩<|.swap [] [.asr 21] ⟨45,6,21,6,3,22⟩<|.fork (.eq (.v 31) (.z 7)) (.vc (xI (.sub (.v 16) (.z 1)))<|.row (.idxA 83 (.raw 2) (I (.sub (.v 16) (.z 1)))) [.asr 14] (.raw 6) ⟨45,6,21,7,3,22⟩<|.swap [] [.asr 22] ⟨45,6,21,7,3,23⟩<|.swap [.asr 22] [.asr 23] ⟨45,6,21,7,3,24⟩<|.win 6 PI ⟨59,8,26,8,3,24⟩<|.swap [] [.asr 24] ⟨59,8,26,8,3,25⟩<|.swap [.asr 18] [.asr 25] ⟨59,8,26,8,3,26⟩<|.row (.look 256 (.map 1) (vT 7) false) [.asr 17] (vI 59) ⟨60,8,26,8,3,26⟩<|.vc (xI (.add (.v 59) (.z 1)))<|.eff (.upd 256 (.map 1) (vT 7) (I (.add (.v 59) (.z 1)))) [.asr 17] (.lit (.tuple #[])) [.asr 26] ⟨60,8,26,8,3,27⟩<|.vc (xI (.add (.v 16) (.z 1)))<|.swap [.asr 25] [.asr 27] ⟨60,8,26,8,3,28⟩<|.swap [.asr 27] [.asr 28] ⟨60,8,26,8,3,29⟩<|.stop [0,1,0,1,1,1] Er Pk)<|.vc (xI (.add (.v 16) (.z 1)))<|.swap [.asr 18] [.asr 22] ⟨45,6,21,6,3,23⟩<|.stop [0,1,0,1,1,1] Er Ko)<|.vc (xI (.add (.v 16) (.z 1)))<|.swap [.asr 18] [.asr 19] ⟨31,4,16,4,3,20⟩<|.stop [0,1,0,1,1,1] Er Nk)<|.swap [.asr 11] [.asr 13] ⟨17,2,10,2,3,14⟩<|.stop [0,1,1,1,1,1] [(0,.ptr 0 0),(1,.raw 0),(7,I (.sub (.v 14) (.z 1))),(9,Fd)] [.asr 13,.asr 12,.blk 0 o7 259,.blk 2 [vB 9] 4,.asr 10]) 100000 bm (λ_ h=>by cases h) ?_;refine bo (ix<(t.kids.length:Int)) rfl (λcd1=>?_) λcd1=>?_
  .refine bQ (α:=Unit) (λ(_:Unit)=>{a:=[bB Γ (oneS p) t]}) (λ(_:Unit)=>TreeAt Γ Z (oneS p) t) (λl h hs=>⟨(),cN (hs) (m:=l) (h:=h)⟩) λ_ qs101=>?_;obtain⟨L100,wu100,ku100⟩:=dc qs101;refine fk (TD t.nd L100) wu100 ?_;refine dsU {a:=[br Γ (oneS L100) t.kids]} (λl h hs=>co ku100 (hs) (m:=l) (h:=h)) ?_;refine dD {r:=[(bR (oneS L100) ix)]} _ (λl h hs=>fC (m:=l) (h:=h) (i:=ix) cu cu hs) λkd103=>?_;have kz103:=kd103.2;refine dsU {a:=[bB Γ (oneS (bR (oneS L100) ix)) (lget t.kids ix)]} (λl h hs=>eE kd103.1 (hs) (m:=l) (h:=h)) ?_;refine bo ((Int.tmod ix 2)=0) rfl (λcd2=>?_) λcd2=>?_
   .refine dc2 (λ(sm2105:Bool) (M2105:(List (bn×Int)))=>{b:=[sm2105],a:=[bB Γ (oneS (bR (oneS L100) ix)) (lget t.kids ix),mpA tK iiE BM M2105,mbA M2105 ((B+2*((sizeL t.kids:Int)-(sizeL (t.kids.drop (Int.toNat ix)):Int))-ix)+2*(sizeL (lget t.kids ix).kids:Int))]}) _ (λl h hs=>IHwalk_runs (h:=h) (l:=l) Γ W (bR (oneS L100) ix) (decide (ix<((t.kids.length:Int)-1))) BM SM sv (lget t.kids ix) G (B+2*((sizeL t.kids:Int)-(sizeL (t.kids.drop (Int.toNat ix)):Int))-ix) cu cu hs) λZ sm2105 M2105 qd105=>?_;refine bo ((Int.tmod ix 2)=1) rfl (λcd3=>?_) λcd3=>?_
    .refine bE (show I6 (ix-1)from cu) ?_;refine dD {r:=[(bR (oneS L100) (ix-1))]} _ (λl h hs=>fC (m:=l) (h:=h) (i:=(ix-1)) cu cu hs) λkd106=>?_;have kz106:=kd106.2;refine dsU {a:=[bB Γ (oneS (bR (oneS L100) (ix-1))) (lget t.kids (ix-1))]} (λl h hs=>eE kd106.1 (hs) (m:=l) (h:=h)) ?_;refine bQ (α:=Unit) (λ(_:Unit)=>{a:=[bB Γ (oneS (bR (oneS L100) (ix-1))) (lget t.kids (ix-1))]}) (λ(_:Unit)=>TreeAt Γ Z (oneS (bR (oneS L100) (ix-1))) (lget t.kids (ix-1))) (λl h hs=>⟨(),cN (hs) (m:=l) (h:=h)⟩) λ_ qs109=>?_;obtain⟨L108,wu108,ku108⟩:=dc qs109;refine fk (TD ((lget t.kids (ix-1)).nd) L108) wu108 ?_;refine dsU {a:=[br Γ (oneS L108) ((lget t.kids (ix-1)).kids)]} (λl h hs=>co ku108 (hs) (m:=l) (h:=h)) ?_;refine bo (((lget t.kids (ix-1)).nd.k)=7) rfl (λcd4=>?_) λcd4=>?_
     .refine bE (show I6 (ix-1)from cu) ?_;refine dD {r:=[(bR (oneS L100) (ix-1))]} _ (λl h hs=>fC (m:=l) (h:=h) (i:=(ix-1)) cu cu hs) λkd111=>?_;have kz111:=kd111.2;refine dsU {a:=[bB Γ (oneS (bR (oneS L100) (ix-1))) (lget t.kids (ix-1))]} (λl h hs=>eE kd111.1 (hs) (m:=l) (h:=h)) ?_;refine bQ (α:=Unit) (λ(_:Unit)=>{a:=[bB Γ (oneS (bR (oneS L100) (ix-1))) (lget t.kids (ix-1))]}) (λ(_:Unit)=>TreeAt Γ Z (oneS (bR (oneS L100) (ix-1))) (lget t.kids (ix-1))) (λl h hs=>⟨(),cN (hs) (m:=l) (h:=h)⟩) λ_ qs114=>?_;obtain⟨L113,wu113,ku113⟩:=dc qs114;refine fk (TD ((lget t.kids (ix-1)).nd) L113) wu113 ?_;refine dsU {a:=[br Γ (oneS L113) ((lget t.kids (ix-1)).kids)]} (λl h hs=>co ku113 (hs) (m:=l) (h:=h)) ?_;refine bQ (α:=Unit) (λ(_:Unit)=>{a:=[mbA M2105 ((B+2*((sizeL t.kids:Int)-(sizeL (t.kids.drop (Int.toNat ix)):Int))-ix)+2*(sizeL (lget t.kids ix).kids:Int))]}) (λ(_:Unit)=> -((B+2*((sizeL t.kids:Int)-(sizeL (t.kids.drop (Int.toNat ix)):Int))-ix)+2*(sizeL (lget t.kids ix).kids:Int))<=mget M2105 ((lget t.kids (ix-1)).nd.name)/\mget M2105 ((lget t.kids (ix-1)).nd.name)<=((B+2*((sizeL t.kids:Int)-(sizeL (t.kids.drop (Int.toNat ix)):Int))-ix)+2*(sizeL (lget t.kids ix).kids:Int))) (λl h hs=>⟨(),pS _ (hs) (m:=l) (h:=h)⟩) λ_ qs116=>?_;refine drT {i:=[(mget M2105 ((lget t.kids (ix-1)).nd.name))]} (λl h hs=>mr (m:=l) (h:=h) (kc:=tK) (ve:=iiE) (L:=M2105) (k:=((lget t.kids (ix-1)).nd.name)) rfl gO rfl rfl hs) ?_;refine bE (show I6 ((mget M2105 ((lget t.kids (ix-1)).nd.name))+1)from cu) ?_;refine dJ (λ(_:Unit)=>{a:=[mpA tK iiE BM (mset M2105 ((lget t.kids (ix-1)).nd.name) ((mget M2105 ((lget t.kids (ix-1)).nd.name))+1))]}) (λ_=>True) (λl h hs=>ic (m:=l) (h:=h) (k:=((lget t.kids (ix-1)).nd.name)) (x:=((mget M2105 ((lget t.kids (ix-1)).nd.name))+1)) rfl gO hs rfl rfl) λ_ _=>?_;refine bE (show I6 (ix+1)from cu) ?_;refine dsU {a:=[mbA (mset M2105 ((lget t.kids (ix-1)).nd.name) ((mget M2105 ((lget t.kids (ix-1)).nd.name))+1)) ((B+2*((sizeL t.kids:Int)-(sizeL (t.kids.drop (Int.toNat ix)):Int))-ix)+2*(sizeL (lget t.kids ix).kids:Int)+1)]} (λl h hs=>Ab cu cu (hs) (m:=l) (h:=h)) ?_;refine dsU {a:=[mbA (mset M2105 ((lget t.kids (ix-1)).nd.name) ((mget M2105 ((lget t.kids (ix-1)).nd.name))+1)) (B+2*((sizeL t.kids:Int)-(sizeL (t.kids.drop (Int.toNat (ix+1))):Int))-(ix+1))]} (λl h hs=>e9 cu (hs) (m:=l) (h:=h)) ?_;exact bu (ih _ (ix+1) sm2105 (mset M2105 ((lget t.kids (ix-1)).nd.name) ((mget M2105 ((lget t.kids (ix-1)).nd.name))+1)) cu cu) rfl rfl
     .refine bE (show I6 (ix+1)from cu) ?_;refine dsU {a:=[mbA M2105 (B+2*((sizeL t.kids:Int)-(sizeL (t.kids.drop (Int.toNat (ix+1))):Int))-(ix+1))]} (λl h hs=>e9 cu (hs) (m:=l) (h:=h)) ?_;exact bu (ih _ (ix+1) sm2105 M2105 cu cu) rfl rfl
    .refine bE (show I6 (ix+1)from cu) ?_;refine dsU {a:=[mbA M2105 (B+2*((sizeL t.kids:Int)-(sizeL (t.kids.drop (Int.toNat (ix+1))):Int))-(ix+1))]} (λl h hs=>e9 cu (hs) (m:=l) (h:=h)) ?_;exact bu (ih _ (ix+1) sm2105 M2105 cu cu) rfl rfl
   .refine dc2 (λ(sm2122:Bool) (M2122:(List (bn×Int)))=>{b:=[sm2122],a:=[bB Γ (oneS (bR (oneS L100) ix)) (lget t.kids ix),mpA tK iiE BM M2122,mbA M2122 ((B+2*((sizeL t.kids:Int)-(sizeL (t.kids.drop (Int.toNat ix)):Int))-ix)+2*(sizeL (lget t.kids ix).kids:Int))]}) _ (λl h hs=>IHwalk_runs (h:=h) (l:=l) Γ W (bR (oneS L100) ix) false BM SM sv (lget t.kids ix) G (B+2*((sizeL t.kids:Int)-(sizeL (t.kids.drop (Int.toNat ix)):Int))-ix) cu cu hs) λZ sm2122 M2122 qd122=>?_;refine bo ((Int.tmod ix 2)=1) rfl (λcd3=>?_) λcd3=>?_
    .refine bE (show I6 (ix-1)from cu) ?_;refine dD {r:=[(bR (oneS L100) (ix-1))]} _ (λl h hs=>fC (m:=l) (h:=h) (i:=(ix-1)) cu cu hs) λkd123=>?_;have kz123:=kd123.2;refine dsU {a:=[bB Γ (oneS (bR (oneS L100) (ix-1))) (lget t.kids (ix-1))]} (λl h hs=>eE kd123.1 (hs) (m:=l) (h:=h)) ?_;refine bQ (α:=Unit) (λ(_:Unit)=>{a:=[bB Γ (oneS (bR (oneS L100) (ix-1))) (lget t.kids (ix-1))]}) (λ(_:Unit)=>TreeAt Γ Z (oneS (bR (oneS L100) (ix-1))) (lget t.kids (ix-1))) (λl h hs=>⟨(),cN (hs) (m:=l) (h:=h)⟩) λ_ qs126=>?_;obtain⟨L125,wu125,ku125⟩:=dc qs126;refine fk (TD ((lget t.kids (ix-1)).nd) L125) wu125 ?_;refine dsU {a:=[br Γ (oneS L125) ((lget t.kids (ix-1)).kids)]} (λl h hs=>co ku125 (hs) (m:=l) (h:=h)) ?_;refine bo (((lget t.kids (ix-1)).nd.k)=7) rfl (λcd4=>?_) λcd4=>?_
     .refine bE (show I6 (ix-1)from cu) ?_;refine dD {r:=[(bR (oneS L100) (ix-1))]} _ (λl h hs=>fC (m:=l) (h:=h) (i:=(ix-1)) cu cu hs) λkd128=>?_;have kz128:=kd128.2;refine dsU {a:=[bB Γ (oneS (bR (oneS L100) (ix-1))) (lget t.kids (ix-1))]} (λl h hs=>eE kd128.1 (hs) (m:=l) (h:=h)) ?_;refine bQ (α:=Unit) (λ(_:Unit)=>{a:=[bB Γ (oneS (bR (oneS L100) (ix-1))) (lget t.kids (ix-1))]}) (λ(_:Unit)=>TreeAt Γ Z (oneS (bR (oneS L100) (ix-1))) (lget t.kids (ix-1))) (λl h hs=>⟨(),cN (hs) (m:=l) (h:=h)⟩) λ_ qs131=>?_;obtain⟨L130,wu130,ku130⟩:=dc qs131;refine fk (TD ((lget t.kids (ix-1)).nd) L130) wu130 ?_;refine dsU {a:=[br Γ (oneS L130) ((lget t.kids (ix-1)).kids)]} (λl h hs=>co ku130 (hs) (m:=l) (h:=h)) ?_;refine bQ (α:=Unit) (λ(_:Unit)=>{a:=[mbA M2122 ((B+2*((sizeL t.kids:Int)-(sizeL (t.kids.drop (Int.toNat ix)):Int))-ix)+2*(sizeL (lget t.kids ix).kids:Int))]}) (λ(_:Unit)=> -((B+2*((sizeL t.kids:Int)-(sizeL (t.kids.drop (Int.toNat ix)):Int))-ix)+2*(sizeL (lget t.kids ix).kids:Int))<=mget M2122 ((lget t.kids (ix-1)).nd.name)/\mget M2122 ((lget t.kids (ix-1)).nd.name)<=((B+2*((sizeL t.kids:Int)-(sizeL (t.kids.drop (Int.toNat ix)):Int))-ix)+2*(sizeL (lget t.kids ix).kids:Int))) (λl h hs=>⟨(),pS _ (hs) (m:=l) (h:=h)⟩) λ_ qs133=>?_;refine drT {i:=[(mget M2122 ((lget t.kids (ix-1)).nd.name))]} (λl h hs=>mr (m:=l) (h:=h) (kc:=tK) (ve:=iiE) (L:=M2122) (k:=((lget t.kids (ix-1)).nd.name)) rfl gO rfl rfl hs) ?_;refine bE (show I6 ((mget M2122 ((lget t.kids (ix-1)).nd.name))+1)from cu) ?_;refine dJ (λ(_:Unit)=>{a:=[mpA tK iiE BM (mset M2122 ((lget t.kids (ix-1)).nd.name) ((mget M2122 ((lget t.kids (ix-1)).nd.name))+1))]}) (λ_=>True) (λl h hs=>ic (m:=l) (h:=h) (k:=((lget t.kids (ix-1)).nd.name)) (x:=((mget M2122 ((lget t.kids (ix-1)).nd.name))+1)) rfl gO hs rfl rfl) λ_ _=>?_;refine bE (show I6 (ix+1)from cu) ?_;refine dsU {a:=[mbA (mset M2122 ((lget t.kids (ix-1)).nd.name) ((mget M2122 ((lget t.kids (ix-1)).nd.name))+1)) ((B+2*((sizeL t.kids:Int)-(sizeL (t.kids.drop (Int.toNat ix)):Int))-ix)+2*(sizeL (lget t.kids ix).kids:Int)+1)]} (λl h hs=>Ab cu cu (hs) (m:=l) (h:=h)) ?_;refine dsU {a:=[mbA (mset M2122 ((lget t.kids (ix-1)).nd.name) ((mget M2122 ((lget t.kids (ix-1)).nd.name))+1)) (B+2*((sizeL t.kids:Int)-(sizeL (t.kids.drop (Int.toNat (ix+1))):Int))-(ix+1))]} (λl h hs=>e9 cu (hs) (m:=l) (h:=h)) ?_;exact bu (ih _ (ix+1) sm2122 (mset M2122 ((lget t.kids (ix-1)).nd.name) ((mget M2122 ((lget t.kids (ix-1)).nd.name))+1)) cu cu) rfl rfl
     .refine bE (show I6 (ix+1)from cu) ?_;refine dsU {a:=[mbA M2122 (B+2*((sizeL t.kids:Int)-(sizeL (t.kids.drop (Int.toNat (ix+1))):Int))-(ix+1))]} (λl h hs=>e9 cu (hs) (m:=l) (h:=h)) ?_;exact bu (ih _ (ix+1) sm2122 M2122 cu cu) rfl rfl
    .refine bE (show I6 (ix+1)from cu) ?_;refine dsU {a:=[mbA M2122 (B+2*((sizeL t.kids:Int)-(sizeL (t.kids.drop (Int.toNat (ix+1))):Int))-(ix+1))]} (λl h hs=>e9 cu (hs) (m:=l) (h:=h)) ?_;exact bu (ih _ (ix+1) sm2122 M2122 cu cu) rfl rfl
  .refine dsU {a:=[mbA G (B+2*(sizeL t.kids:Int)-(t.kids.length:Int)+0)]} (λl h hs=>e9 cu (hs) (m:=l) (h:=h)) ?_;exact bu (Jc Γ W p told BM SM sm t M B T hB hT IHwalk_runs sv L2 ix sv G _ _ 0 G cu (aq _)) rfl rfl
theorem Q9(W:Nat)(p:SV)(told:Bool)(BM SM:Nat)(sm:Bool)(t:Tr)(M:List (bn×Int))(B T:Int)(hB:0<=B/\B+2*(sizeL t.kids:Int)<=1000000)(hT:((sizeL t.kids:Int))<=T)(IHwalk_runs:yj T)(hs:St Z0 (bB Γ (oneS p) t::own W (.cells [.map BM,.func (.func 166) [] [.ptr SM 0]] 259)::own SM (.cells [bV sm] 4)::mpA tK iiE BM M::mbA M B::l) h):RC Γ Z0 167 [.ptr W 0,(oneS p),bV told] h (Ks Γ W p told BM SM sm t M B T l):=by
 refine bL Tryz.f167 Tryz.func167 [.ptr 0 0,.raw 0,vB 0] [.asr 0,.blk 0 o7 259,.blk 2 [vB 1] 4,.asr 1,.asr 2] ⟨0,0,2,1,3,3⟩ (va {b:=[told,sm],r:=[p],n:=[W,BM,SM],a:=[bB Γ (oneS p) t,mpA tK iiE BM M,mbA M B]}) (.swap [.asr 0] [.asr 3] ⟨0,0,2,1,3,4⟩<|.win 0 (nX 0 0 2 (.raw 1)) ⟨14,2,7,2,3,4⟩<|.swap [] [.asr 4] ⟨14,2,7,2,3,5⟩<|.fork (.eq (.v 0) (.z 7)) (.fork (.bv 0) (.stop [1] tX KM)<|.swap [.asr 2] [.asr 5] ⟨14,2,7,2,3,6⟩<|.row (.look 256 (.map 1) (vT 1) false) [.asr 1] (vI 14) ⟨15,2,7,2,3,6⟩<|.fork (.eq (.v 14) (.z 0)) (.call 166 [.raw 0,.ptr 2 0] [.blk 2 [vB 1] 4] (TA) [.blk 2 [TB] 4] ⟨15,2,7,2,3,6⟩<|.stop [1] tX [.asr 3,.blk 0 o7 259,.blk 2 [TB] 4,.asr 1,.asr 5])<|.stop [1] tX [.asr 3,.blk 0 o7 259,.blk 2 [vB 1] 4,.asr 1,.asr 5])<|.stop [1] tX KM) hs ?_;have j0:∀(Z:Hp) (sv:Bool) (_:True),den (BG Γ W p told BM SM sm t M B T Z0 l) (.stop [1] tX KJ) ⟨0,0,3,1,3,6⟩ (va {b:=[told,sm,sv],r:=[p],n:=[W,BM,SM],a:=[bB Γ (oneS p) t,mpA tK iiE BM M,mbA M B,mpA tK iiE BM M,mbA M B,bB Γ (oneS p) t]}) Z:=by
  intro Z sv j0i;refine yd [1] tX KJ [] ⟨0,0,3,1,3,6⟩ (.call 220 [.raw 0] [.asr 5] (vB 3) [.asr 6] ⟨0,0,4,1,3,7⟩<|.fork (.bv 3) (.swap [.asr 6] [.asr 7] ⟨0,0,4,1,3,8⟩<|.win 0 PZ ⟨14,2,9,2,3,8⟩<|.swap [] [.asr 8] ⟨14,2,9,2,3,9⟩<|.row (.len 83 (.raw 1)) [.asr 8] (vI 14) ⟨15,2,9,2,3,9⟩<|.vc (xI (.sub (.v 14) (.z 1)))<|.row (.len 83 (.raw 1)) [.asr 8] (vI 15) ⟨16,2,9,2,3,9⟩<|.swap [.asr 4] [.asr 9] ⟨16,2,9,2,3,10⟩<|.stop [0,1,0,1,1,1] [(0,.ptr 0 0),(1,.raw 0),(7,I (.sub (.v 14) (.z 1))),(69,vI 15),(70,Fd)] KV)<|.swap [.asr 6] [.asr 7] ⟨0,0,4,1,3,8⟩<|.win 0 PZ ⟨14,2,9,2,3,8⟩<|.swap [] [.asr 8] ⟨14,2,9,2,3,9⟩<|.row (.len 83 (.raw 1)) [.asr 8] (vI 14) ⟨15,2,9,2,3,9⟩<|.swap [.asr 4] [.asr 9] ⟨15,2,9,2,3,10⟩<|.stop [0,1,0,0,1,0,1] [(0,.ptr 0 0),(1,.raw 0),(46,vI 14),(47,Fd)] KV) 100000 bm (λ_ h=>by cases h) ?_;refine dcU {b:=[(ib t)],a:=[bB Γ (oneS p) t]} (λ_ _=>Ql Γ p t cu) λZ=>?_;refine bo ((ib t)=true) rfl (λcd1=>?_) λcd1=>?_
  .refine bQ (α:=Unit) (λ(_:Unit)=>{a:=[bB Γ (oneS p) t]}) (λ(_:Unit)=>TreeAt Γ Z (oneS p) t) (λl h hs=>⟨(),cN (hs) (m:=l) (h:=h)⟩) λ_ qs3=>?_;obtain⟨L2,wu2,ku2⟩:=dc qs3;refine fk (TD t.nd L2) wu2 ?_;refine dsU {a:=[br Γ (oneS L2) t.kids]} (λl h hs=>co ku2 (hs) (m:=l) (h:=h)) ?_;refine dD {i:=[(t.kids.length:Int)]} _ (λl h hs=>dN (m:=l) (h:=h) hs) λkl5=>?_;refine bE (show I6 ((t.kids.length:Int)-1)from cu) ?_;refine dD {i:=[(t.kids.length:Int)]} _ (λl h hs=>dN (m:=l) (h:=h) hs) λkl6=>?_;refine dsU {a:=[mbA M (B+2*((sizeL t.kids:Int)-(sizeL (t.kids.drop (Int.toNat 0)):Int))-0)]} (λl h hs=>e9 cu (hs) (m:=l) (h:=h)) ?_;exact bu (Kj Γ W p told BM SM sm t M B T hB hT IHwalk_runs sv L2 _ _ 0 sv M cu (aq _)) rfl rfl
  .refine bQ (α:=Unit) (λ(_:Unit)=>{a:=[bB Γ (oneS p) t]}) (λ(_:Unit)=>TreeAt Γ Z (oneS p) t) (λl h hs=>⟨(),cN (hs) (m:=l) (h:=h)⟩) λ_ qs9=>?_;obtain⟨L8,wu8,ku8⟩:=dc qs9;refine fk (TD t.nd L8) wu8 ?_;refine dsU {a:=[br Γ (oneS L8) t.kids]} (λl h hs=>co ku8 (hs) (m:=l) (h:=h)) ?_;refine dD {i:=[(t.kids.length:Int)]} _ (λl h hs=>dN (m:=l) (h:=h) hs) λkl11=>?_;refine dsU {a:=[mbA M (B+2*((sizeL t.kids:Int)-(sizeL (t.kids.drop (Int.toNat 0)):Int))-0)]} (λl h hs=>e9 cu (hs) (m:=l) (h:=h)) ?_;exact bu (IO Γ W p told BM SM sm t M B T hB hT IHwalk_runs sv L8 _ _ 0 sv M cu (aq _)) rfl rfl
 refine bQ (α:=Unit) (λ(_:Unit)=>{a:=[bB Γ (oneS p) t]}) (λ(_:Unit)=>TreeAt Γ Z0 (oneS p) t) (λl h hs=>⟨(),cN (hs) (m:=l) (h:=h)⟩) λ_ qs14=>?_;obtain⟨L13,wu13,ku13⟩:=dc qs14;refine fk (TD t.nd L13) wu13 ?_;refine dsU {a:=[br Γ (oneS L13) t.kids]} (λl h hs=>co ku13 (hs) (m:=l) (h:=h)) ?_;refine bo (t.nd.k=7) rfl (λcd1=>?_) λcd1=>?_
 .refine bo (told=true) rfl (λcd2=>?_) λcd2=>?_
  .exact bu (j0 _ sm cu) rfl rfl
  .refine bQ (α:=Unit) (λ(_:Unit)=>{a:=[mbA M B]}) (λ(_:Unit)=> -B<=mget M t.nd.name/\mget M t.nd.name<=B) (λl h hs=>⟨(),pS _ (hs) (m:=l) (h:=h)⟩) λ_ qs16=>?_;refine drT {i:=[(mget M t.nd.name)]} (λl h hs=>mr (m:=l) (h:=h) (kc:=tK) (ve:=iiE) (L:=M) (k:=t.nd.name) rfl gO rfl rfl hs) ?_;refine bo ((mget M t.nd.name)=0) rfl (λcd3=>?_) λcd3=>?_
   .refine dcU {} (λ_ _=>Oo Γ p SM sm) λZ=>?_;exact bu (j0 _ true cu) rfl rfl
   .exact bu (j0 _ sm cu) rfl rfl
 .exact bu (j0 _ sm cu) rfl rfl
theorem KS:∀T:Nat,yj (T:Int)
 |0=>λΓ _ W p told BM SM sm t M B hB hT=>by omega
 |T+1=>λΓ _ W p told BM SM sm t M B hB hT Z0 h l hs=>Q9 Γ W p told BM SM sm t M B (T:Int) hB bj (KS T) hs
theorem N1(W:Nat)(p:SV)(told:Bool)(BM SM:Nat)(sm:Bool)(t:Tr)(M:List (bn×Int))(B:Int)(hB:0<=B/\B+2*(sizeL t.kids:Int)<=1000000)(hs:St Z0 (bB Γ (oneS p) t::own W (.cells [.map BM,.func (.func 166) [] [.ptr SM 0]] 259)::own SM (.cells [bV sm] 4)::mpA tK iiE BM M::mbA M B::l) h):RC Γ Z0 167 [.ptr W 0,(oneS p),bV told] h (E2 Γ W p told BM SM sm t M B l):=by
 exact KS (((sizeL t.kids:Int)).toNat+1) Γ W p told BM SM sm t M B hB bj hs
abbrev PK(Γ:Glob)(x:ND)(L:SV)(ks:List Tr):TG:=λl Zq vq hq=>∃sm:Bool,(True)/\vq=bV sm/\St Zq (br Γ (oneS L) ks::l) hq
theorem Qx(x:ND)(L:SV)(ks:List Tr)(hz:(sizeL ks:Int)<=5000)(hs:St Z0 (br Γ (oneS L) ks::l) h):RC Γ Z0 122 [.agg (ndL x (oneS L))] h (PK Γ x L ks l):=by
 refine bL Tryz.f122 Tryz.func122 [.agg TQ] [.asr 0] ⟨14,2,5,1,0,1⟩ (va {TD x L with a:=[br Γ (oneS L) ks]}) (.new<|.new<|.new<|.new<|.swap QJ [.asr 1,.asr 2] ⟨14,2,5,1,4,3⟩<|.swap [.obj 2 (.map [] 0)] [.asr 3] ⟨14,2,5,1,4,4⟩<|.swap [] [.asr 4] ⟨14,2,5,1,4,5⟩<|.call 167 [.ptr 3 0,.ptr 0 0,TA] [.asr 1,.blk 3 [.map 2,.fn 166 [] [.ptr 1 0]] 259,.blk 1 [TA] 4,.asr 3,.asr 4] (.tup []) [.asr 5,.asr 6,.asr 7,.blk 3 [.map 2,.fn 166 [] [.ptr 1 0]] 259,.blk 1 [vB 5] 4] ⟨14,2,6,1,4,8⟩<|.ret (vB 5) [.asr 2]) hs ?_;refine bA λbk0=>?_;refine bA λbk1=>?_;refine bA λbk2=>?_;refine bA λbk3=>?_;refine jt (λ(_:Unit)=>{a:=[bB Γ (.ptr bk0 0) (Tr.mk x ks),br Γ (oneS L) ks]}) (λ(_:Unit)=>True) (λl h hs=>om rfl (hs) (m:=l) (h:=h)) λZ _ _=>?_;refine dsU {a:=[mpA tK iiE bk2 []]} (λl h hs=>oa (hs) (m:=l) (h:=h)) ?_;refine dsU {a:=[mbA [] 0]} (λl h hs=>Ng (hs) (m:=l) (h:=h)) ?_;refine dc2 (λ(sm25:Bool) (M25:(List (bn×Int)))=>{b:=[sm25],a:=[bB Γ (.ptr bk0 0) (Tr.mk x ks),mpA tK iiE bk2 M25,mbA M25 (0+2*(sizeL (Tr.mk x ks).kids:Int))]}) _ (λl h hs=>(by have hr:=N1 Γ bk3 (.ptr bk0 0) false bk2 bk1 false (Tr.mk x ks) ([]) 0 (by first|omega|(and_intros<;>intros<;>and_intros<;>first|omega|assumption|(have w1:=fa x ks;show(0:Int)+2*(sizeL ks:Int)<=_;omega)|(show(0:Int)<=0/\(0:Int)+2*(sizeL ks:Int)<=_;omega)|exact V1)) (Z0:=Z) (l:=l) (h:=h) TP;first|exact hr|(simp only[RC,bN,bP]at hr;exact hr)|(simp only[RC,bN,bP,E2]at hr;exact hr))) λZ sm25 M25 qd5=>?_;exact an λh hs=>⟨sm25,TH,rfl,hs⟩
abbrev Qg(Γ:Glob)(s:bn):TG:=λl Zq vq hq=>∃v:Bool,(True)/\vq=bV v/\St Zq (l) hq
theorem OW(s:bn)(hs:St Z0 (l) h):RC Γ Z0 121 [sV s] h (Qg Γ s l):=by
 refine bL Tryz.f121 Tryz.func121 [vT 0] [] ⟨0,1,0,0,0,0⟩ (va {t:=[s]}) (.swap [] [.asr 0] ⟨0,1,0,0,0,1⟩<|.call 57 [.agg [I (.z 7),Fd,Fd,Fd,.txt (.tl []),TA,Fd,vT 0,Fd,Fd,Fd,Fd,TA,TA,Fd,Fd,Fd,Fd,TA,TA,Fd,.lit mt]] [.asr 0] (vI 0) [.asr 1] ⟨1,1,0,0,0,2⟩<|.ret (.bool (.eq (.v 0) (.z 0))) []) hs ?_;refine dsU {a:=[br Γ (oneS (.lit mt)) ([]:List Tr)]} (λl h hs=>cD (hs) (l:=l) (h:=h)) ?_;refine bS (λ(e2:Int)=>{i:=[e2],a:=[br Γ (oneS (.lit mt)) ([]:List Tr)]}) _ (λ_ _=>Ij Γ (ND.mk 7 0 0 0 ([]:bn) false 0 s 0 0 0 0 false false 0 0 0 0 false false 0) (.lit mt) ([]:List Tr) (by first|omega|(and_intros<;>intros<;>and_intros<;>first|omega|assumption|exact V1))) λZ e2 qd2=>?_;exact an λh hs=>⟨(decide (e2=0)),TH,rfl,hs⟩
end Go.Proofs.YtbhokokpplmigaaGreatDoor.Sx
