/-
  A part of the proof of FileReads; no condition.
-/
import Derived.Test.YtbhokokpplmigaaGreatDoorSxGF
set_option linter.all false
namespace Go.Proofs.YtbhokokpplmigaaGreatDoor.Sx
open Go Go.Proofs.YtbhokokpplmigaaGreatDoor.Ev
set_option maxRecDepth 20000
set_option maxHeartbeats 4000000
variable (Γ:Glob)[Mute Γ]{Z0 h:Hp}{l:List Asrt}
abbrev zc0:List XV:=[I (.z 4),Fd,Fd,.txt (.tl []),TA,I (.z 9)]
abbrev zc1:List XV:=[vI 0,vI 1,vI 2,vT 1,vB 0,vI 3]
theorem Kc0{P:Prop}(h:P:=by first|omega|(have h1:=hi.1;have h2:=hi.2.1;omega)):P:=h
section
variable {P:Program}{Γ:Glob}{Z h:Hp}{m:List Asrt}
theorem IA{t e e':TypeId}{b off n c:Nat}{cs:List SV}(ht:tyU P t=some (.slice e))(he:tyU P e=some (.int .u8))(s:St Z (own b (.cells cs e')::m) h):∃(_:Unit) (H:Hp),(bif(eb P Γ h t t (.slice b off n c)).isNone then val (k8 P h t t (.slice b off n c))else none)=some [(.slice b off n c,H)]/\h.next<=H.next/\True/\St Z (own b (.cells cs e')::m) H:=by
 have hg:=(St.get (l:=[]) s).1;refine⟨(),⟨h.objs.set b (.cells cs e'),h.next⟩,?_,av _,trivial,St.set0 s⟩;have h1:eb P Γ h t t (.slice b off n c)=none:=by simp only[eb,ht];rfl
 have h2:Nat.beq t t=true:=Nat.beq_refl t;simp only[h1,Option.isNone_none,bf,k8,ht,he,hg,h2];rfl
end
def dt(p q r s:Int):Int:=if q=s then(if p<r then-1 else if r<p then 1 else 0)else(if q<s then-1 else if s<q then 1 else 0)
theorem Qv(b:Int){Z h:Hp}{l:List Asrt}(hs:St Z l h):Runs Tryz.prog Γ (.call 72 [iV b] h) (Ret Z l (iV (if b=0\/b=5 then b else 6))):=by
 refine gf (Post:=jd Z l (iV (if b=0\/b=5 then b else 6))) Tryz.f72 Tryz.func72 bm [vI 0] [] ⟨1,0,0,0,0,0⟩ (va {i:=[b]}) (.fork (.eq (.v 0) (.z 0)) (.ret (vI 0) [])<|.fork (.eq (.v 0) (.z 5)) (.ret (vI 0) [])<|.ret (Tz) []) 100000 bm hs rfl ?_;refine bo (b=0) rfl (λcd1=>?_) λcd1=>?_
 .exact bX λh hs=>⟨show(iV b:SV)=_ from by simp[*],hs.end⟩
 .refine bo (b=5) rfl (λcd2=>?_) λcd2=>?_
  .exact bX λh hs=>⟨show(iV b:SV)=_ from by simp[*],hs.end⟩
  .exact bX λh hs=>⟨show(iV 6:SV)=_ from by simp[*],hs.end⟩
theorem Gk(b:Int){Z h:Hp}{l:List Asrt}(hs:St Z l h):Runs Tryz.prog Γ (.call 199 [yV b] h) (Ret Z l (bV (decide (65<=b)&&decide (b<=90)))):=by
 refine gf (Post:=jd Z l (bV (decide (65<=b)&&decide (b<=90)))) Tryz.f199 Tryz.func199 bm [.int .u8 (.v 0)] [] ⟨1,0,0,0,0,0⟩ (va {i:=[b]}) (.fork (.le (.z 65) (.v 0)) (.ret (.bool (.le (.v 0) (.z 90))) [])<|.ret (TA) []) 100000 bm hs rfl ?_;refine bo (65<=b) rfl (λcd1=>?_) λcd1=>?_
 .exact bX λh hs=>⟨show(bV (decide (b<=90)):SV)=_ from by simp[*],hs.end⟩
 .exact bX λh hs=>⟨show(bV false:SV)=_ from by simp[*],hs.end⟩
theorem Nv(b:Int){Z h:Hp}{l:List Asrt}(hs:St Z l h):Runs Tryz.prog Γ (.call 200 [yV b] h) (Ret Z l (bV (decide (48<=b)&&decide (b<=57)))):=by
 refine gf (Post:=jd Z l (bV (decide (48<=b)&&decide (b<=57)))) Tryz.f200 Tryz.func200 bm [.int .u8 (.v 0)] [] ⟨1,0,0,0,0,0⟩ (va {i:=[b]}) (.fork (.le (.z 48) (.v 0)) (.ret (.bool (.le (.v 0) (.z 57))) [])<|.ret (TA) []) 100000 bm hs rfl ?_;refine bo (48<=b) rfl (λcd1=>?_) λcd1=>?_
 .exact bX λh hs=>⟨show(bV (decide (b<=57)):SV)=_ from by simp[*],hs.end⟩
 .exact bX λh hs=>⟨show(bV false:SV)=_ from by simp[*],hs.end⟩
theorem OB(p q r s:Int){Z h:Hp}{l:List Asrt}(hs:St Z l h):Runs Tryz.prog Γ (.call 69 [.agg [iV p,iV q],.agg [iV r,iV s]] h) (Ret Z l (iV (dt p q r s))):=by
 refine gf (Post:=jd Z l (iV (dt p q r s))) Tryz.f69 Tryz.func69 bm [.agg [vI 0,vI 1],.agg [vI 2,vI 3]] [] ⟨4,0,0,0,0,0⟩ (va {i:=[p,q,r,s]}) (.new<|.new<|.fork (.eq (.v 1) (.v 3)) (.fork (.lt (.v 0) (.v 2)) (.ret (I (.z (-1))) [])<|.fork (.lt (.v 2) (.v 0)) (.ret (I (.z 1)) [])<|.ret (Fd) [])<|.fork (.lt (.v 1) (.v 3)) (.ret (I (.z (-1))) [])<|.fork (.lt (.v 3) (.v 1)) (.ret (I (.z 1)) [])<|.ret (Fd) []) 100000 bm hs rfl ?_;refine bA λbk0=>?_;refine bA λbk1=>?_;refine bo (q=s) rfl (λcd1=>?_) λcd1=>?_
 .refine bo (p<r) rfl (λcd2=>?_) λcd2=>?_
  .exact bX λh hs=>⟨show(iV (-1):SV)=_ from by simp[dt, *],hs.end⟩
  .refine bo (r<p) rfl (λcd3=>?_) λcd3=>?_
   .exact bX λh hs=>⟨show(iV 1:SV)=_ from by simp[dt, *],hs.end⟩
   .exact bX λh hs=>⟨show(iV 0:SV)=_ from by simp[dt, *],hs.end⟩
 .refine bo (q<s) rfl (λcd2=>?_) λcd2=>?_
  .exact bX λh hs=>⟨show(iV (-1):SV)=_ from by simp[dt, *],hs.end⟩
  .refine bo (s<q) rfl (λcd3=>?_) λcd3=>?_
   .exact bX λh hs=>⟨show(iV 1:SV)=_ from by simp[dt, *],hs.end⟩
   .exact bX λh hs=>⟨show(iV 0:SV)=_ from by simp[dt, *],hs.end⟩
theorem xA(s:bn)(n:Int):((bZ s n).length:Int)<=(s.length:Int):=by
 simp only[bZ,aR];omega
def jR(p:Int->Bool):bn->Nat
 |[]=>0
 |b::l=>if p b.toNat then jR p l+1 else 0
def HdIn(p:Int->Bool)(s:bn)(x:Int):Prop:=0<=x/\x<=(s.length:Int)/\∀i:Nat,(i:Int)<x->p (bAt s i)=true
theorem vN(p:Int->Bool)(s:bn):HdIn p s 0:=⟨Int.le_refl _,by omega,λi hi=>by omega⟩
theorem wa{p:Int->Bool}{s:bn}{x:Int}(h:HdIn p s x)(h1:x<(s.length:Int))(h2:p (bAt s x)=true):HdIn p s (x+1):=⟨by have:=h.1;omega,by omega,λi hi=>by
 by_cases e:(i:Int)=x
 .rw[e];exact h2
 .exact h.2.2 i bj⟩
theorem wQ(b:UInt8)(l:bn)(i:Nat):bAt (b::l) ((i+1:Nat):Int)=bAt l i:=by simp[bAt]
theorem y2(b:UInt8)(l:bn):bAt (b::l) 0=b.toNat:=by simp[bAt]
theorem Gh(p:Int->Bool):∀(s:bn) (n:Nat),n<=s.length->(∀i:Nat,i<n->p (bAt s i)=true)->(n=s.length\/p (bAt s n)=false)->jR p s=n
 |[],n,h,_,_=>by simp at h;rw[h];rfl
 |b::l,0,_,_,he=>by
  rcases he with he|he
  .simp at he
  .have he:p (bAt (b::l) 0)=false:=he;rw[y2]at he;rw[jR,he];rfl
 |b::l,n+1,h,hp,he=>by
  have h0:=hp 0 bj;have h0:p (bAt (b::l) 0)=true:=h0;rw[y2]at h0;rw[jR,h0,bi rfl,Gh p l n (by simp at h;omega) (λi hi=>by have:=hp (i+1) bj;rwa [wQ]at this) (he.imp (λe=>by simp at e;omega) λe=>by rwa [wQ]at e)]
theorem qa{p:Int->Bool}{s:bn}{x:Int}(h:HdIn p s x)(he:¬x<(s.length:Int)\/¬p (bAt s x)=true):((jR p s:Nat):Int)=x:=by
 obtain⟨h0,h1,h2⟩:=h;obtain⟨n,rfl⟩:=Int.eq_ofNat_of_zero_le h0;rw[Gh p s n bj (λi hi=>h2 i bj) (he.imp (λe=>by omega) λe=>by simpa using e)]
theorem G4(p:Int->Bool):∀s:bn,jR p s<=s.length
 |[]=>av _
 |b::l=>by
  have:=G4 p l;rw[jR];split
  .simp only[au];omega
  .omega
def qz(z:Int):Bool:=decide (48<=z)&&decide (z<=57)
def j8(z:Int):Bool:=decide (65<=z)&&decide (z<=90)
def dOf(s:bn):Int:=(jR qz s:Nat)
theorem qr(s:bn):0<=dOf s/\dOf s<=(s.length:Int):=⟨by unfold dOf;omega,by have:=G4 qz s;unfold dOf;omega⟩
theorem MH(s:bn)(hl:(s.length:Int)<=1000000){l:List Asrt}:∀(m:Nat) (Z:Hp) (x:Int) (hi:HdIn qz s x) (hm:((s.length:Int)-x).toNat<m),den (fnC Tryz.prog Γ Tryz.f218 1 [] l (jd Z l (iV (dOf s)))) (.stop [0,0,1,1] [(0,vT 0),(3,vI 0)] []) ⟨1,1,0,0,0,0⟩ (va {i:=[x],t:=[s]}) Z:=by
 intro m
 induction m with
 |zero=>intros;omega
 |succ m ih=>
  intro Z x hi hm;refine cZ [0,0,1,1] [(0,vT 0),(3,vI 0)] [] [] ⟨1,1,0,0,0,0⟩ (.fork (.lt (.v 0) (.len (.tv 0))) (.vc (.le (.z 0) (.v 0))<|.vc (.lt (.v 0) (.len (.tv 0)))<|.call 200 [.int .u8 (.at (.tv 0) (.v 0))] [] (vB 0) [] ⟨1,1,1,0,0,0⟩<|.fork (.bv 0) (.vc (xI (.add (.v 0) (.z 1)))<|.stop [0,0,1,1] [(0,vT 0),(3,I (.add (.v 0) (.z 1)))] [])<|.ret (vI 0) [])<|.ret (vI 0) []) 100000 bm (λ_ h=>by cases h) ?_;refine bo (x<(s.length:Int)) rfl (λcd1=>?_) λcd1=>?_
  .refine bE (show 0<=x from Kc0) ?_;refine bE (show x<(s.length:Int)from Kc0) ?_;refine cU {b:=[(qz (bAt s x))]} (λl h hs=>Nv Γ (bAt s x) hs) ?_;refine bo ((qz (bAt s x))=true) rfl (λcd2=>?_) λcd2=>?_
   .refine bE (show I6 (x+1)from Kc0) ?_;exact bu (ih _ (x+1) TK TK) rfl rfl
   .exact bX λh hs=>⟨show(iV x:SV)=_ from by rw[dOf,qa hi TL],hs.end⟩
  .exact bX λh hs=>⟨show(iV x:SV)=_ from by rw[dOf,qa hi TL],hs.end⟩
theorem GJ(s:bn)(hl:(s.length:Int)<=1000000){Z h:Hp}{l:List Asrt}(hs:St Z l h):Runs Tryz.prog Γ (.call 218 [sV s] h) (Ret Z l (iV (dOf s))):=by
 refine gf (Post:=jd Z l (iV (dOf s))) Tryz.f218 Tryz.func218 bm [vT 0] [] ⟨0,1,0,0,0,0⟩ (va {t:=[s]}) (.stop [0,0,1,1] [(0,vT 0),(3,Fd)] []) 100000 bm hs rfl ?_;exact bu (MH Γ s hl _ _ 0 TK (aq _)) rfl rfl
def gz(s:bn):Bool:=if s=([45]:bn)then true else(if s=([43]:bn)then true else(if s=([37]:bn)then true else(false)))
theorem Te(s:bn){Z h:Hp}{l:List Asrt}(hs:St Z l h):Runs Tryz.prog Γ (.call 145 [sV s] h) (Ret Z l (bV (gz s))):=by
 refine gf (Post:=jd Z l (bV (gz s))) Tryz.f145 Tryz.func145 bm [vT 0] [] ⟨0,1,0,0,0,0⟩ (va {t:=[s]}) (.fork (.teq (.tv 0) (.tl [45])) (.ret (TB) [])<|.fork (.teq (.tv 0) (.tl [43])) (.ret (TB) [])<|.fork (.teq (.tv 0) (.tl [37])) (.ret (TB) [])<|.ret (TA) []) 100000 bm hs rfl ?_;refine bo (s=([45]:bn)) rfl (λcd1=>?_) λcd1=>?_
 .exact bX λh hs=>⟨show(bV true:SV)=_ from by rw[gz,bi cd1],hs.end⟩
 .refine bo (s=([43]:bn)) rfl (λcd2=>?_) λcd2=>?_
  .exact bX λh hs=>⟨show(bV true:SV)=_ from by rw[gz,bh cd1,bi cd2],hs.end⟩
  .refine bo (s=([37]:bn)) rfl (λcd3=>?_) λcd3=>?_
   .exact bX λh hs=>⟨show(bV true:SV)=_ from by rw[gz,bh cd1,bh cd2,bi cd3],hs.end⟩
   .exact bX λh hs=>⟨show(bV false:SV)=_ from by rw[gz,bh cd1,bh cd2,bh cd3],hs.end⟩
def c7(s:bn):Bool:=if s=([43]:bn)then true else(if s=([45]:bn)then true else(if s=([42]:bn)then true else(if s=([47]:bn)then true else(if s=([94]:bn)then true else(if s=([38]:bn)then true else(if s=([61]:bn)then true else(if s=([60,62]:bn)then true else(if s=([60]:bn)then true else(if s=([60,61]:bn)then true else(if s=([62]:bn)then true else(if s=([62,61]:bn)then true else(false))))))))))))
theorem Sz(s:bn){Z h:Hp}{l:List Asrt}(hs:St Z l h):Runs Tryz.prog Γ (.call 146 [sV s] h) (Ret Z l (bV (c7 s))):=by
 refine gf (Post:=jd Z l (bV (c7 s))) Tryz.f146 Tryz.func146 bm [vT 0] [] ⟨0,1,0,0,0,0⟩ (va {t:=[s]}) (.fork (.teq (.tv 0) (.tl [43])) (.ret (TB) [])<|.fork (.teq (.tv 0) (.tl [45])) (.ret (TB) [])<|.fork (.teq (.tv 0) (.tl [42])) (.ret (TB) [])<|.fork (.teq (.tv 0) (.tl [47])) (.ret (TB) [])<|.fork (.teq (.tv 0) (.tl [94])) (.ret (TB) [])<|.fork (.teq (.tv 0) (.tl [38])) (.ret (TB) [])<|.fork (.teq (.tv 0) (.tl [61])) (.ret (TB) [])<|.fork (.teq (.tv 0) (.tl [60,62])) (.ret (TB) [])<|.fork (.teq (.tv 0) (.tl [60])) (.ret (TB) [])<|.fork (.teq (.tv 0) (.tl [60,61])) (.ret (TB) [])<|.fork (.teq (.tv 0) (.tl [62])) (.ret (TB) [])<|.fork (.teq (.tv 0) (.tl [62,61])) (.ret (TB) [])<|.ret (TA) []) 100000 bm hs rfl ?_;refine bo (s=([43]:bn)) rfl (λcd1=>?_) λcd1=>?_
 .exact bX λh hs=>⟨show(bV true:SV)=_ from by rw[c7,bi cd1],hs.end⟩
 .refine bo (s=([45]:bn)) rfl (λcd2=>?_) λcd2=>?_
  .exact bX λh hs=>⟨show(bV true:SV)=_ from by rw[c7,bh cd1,bi cd2],hs.end⟩
  .refine bo (s=([42]:bn)) rfl (λcd3=>?_) λcd3=>?_
   .exact bX λh hs=>⟨show(bV true:SV)=_ from by rw[c7,bh cd1,bh cd2,bi cd3],hs.end⟩
   .refine bo (s=([47]:bn)) rfl (λcd4=>?_) λcd4=>?_
    .exact bX λh hs=>⟨show(bV true:SV)=_ from by rw[c7,bh cd1,bh cd2,bh cd3,bi cd4],hs.end⟩
    .refine bo (s=([94]:bn)) rfl (λcd5=>?_) λcd5=>?_
     .exact bX λh hs=>⟨show(bV true:SV)=_ from by rw[c7,bh cd1,bh cd2,bh cd3,bh cd4,bi cd5],hs.end⟩
     .refine bo (s=([38]:bn)) rfl (λcd6=>?_) λcd6=>?_
      .exact bX λh hs=>⟨show(bV true:SV)=_ from by rw[c7,bh cd1,bh cd2,bh cd3,bh cd4,bh cd5,bi cd6],hs.end⟩
      .refine bo (s=([61]:bn)) rfl (λcd7=>?_) λcd7=>?_
       .exact bX λh hs=>⟨show(bV true:SV)=_ from by rw[c7,bh cd1,bh cd2,bh cd3,bh cd4,bh cd5,bh cd6,bi cd7],hs.end⟩
       .refine bo (s=([60,62]:bn)) rfl (λcd8=>?_) λcd8=>?_
        .exact bX λh hs=>⟨show(bV true:SV)=_ from by rw[c7,bh cd1,bh cd2,bh cd3,bh cd4,bh cd5,bh cd6,bh cd7,bi cd8],hs.end⟩
        .refine bo (s=([60]:bn)) rfl (λcd9=>?_) λcd9=>?_
         .exact bX λh hs=>⟨show(bV true:SV)=_ from by rw[c7,bh cd1,bh cd2,bh cd3,bh cd4,bh cd5,bh cd6,bh cd7,bh cd8,bi cd9],hs.end⟩
         .refine bo (s=([60,61]:bn)) rfl (λcd10=>?_) λcd10=>?_
          .exact bX λh hs=>⟨show(bV true:SV)=_ from by rw[c7,bh cd1,bh cd2,bh cd3,bh cd4,bh cd5,bh cd6,bh cd7,bh cd8,bh cd9,bi cd10],hs.end⟩
          .refine bo (s=([62]:bn)) rfl (λcd11=>?_) λcd11=>?_
           .exact bX λh hs=>⟨show(bV true:SV)=_ from by rw[c7,bh cd1,bh cd2,bh cd3,bh cd4,bh cd5,bh cd6,bh cd7,bh cd8,bh cd9,bh cd10,bi cd11],hs.end⟩
           .refine bo (s=([62,61]:bn)) rfl (λcd12=>?_) λcd12=>?_
            .exact bX λh hs=>⟨show(bV true:SV)=_ from by rw[c7,bh cd1,bh cd2,bh cd3,bh cd4,bh cd5,bh cd6,bh cd7,bh cd8,bh cd9,bh cd10,bh cd11,bi cd12],hs.end⟩
            .exact bX λh hs=>⟨show(bV false:SV)=_ from by rw[c7,bh cd1,bh cd2,bh cd3,bh cd4,bh cd5,bh cd6,bh cd7,bh cd8,bh cd9,bh cd10,bh cd11,bh cd12],hs.end⟩
def cY(a0 a1 a2 a3:Int)(a4 a5:Bool)(b0 b1 b2 b3:Int)(b4 b5:Bool):Bool:=if(!((decide (a0=0))&&(decide (a1=0))))=(!((decide (b0=0))&&(decide (b1=0))))then if(!((decide (a2=0))&&(decide (a3=0))))=(!((decide (b2=0))&&(decide (b3=0))))then if(a0=0)/\(a1=0)then if(a2=0)/\(a3=0)then false else(if a4=true then false else(if b4=true then false else(true)))else(if(a2=0)/\(a3=0)then if a5=true then false else((!b5))else(true))else(false)else(false)
theorem RV(a0 a1 a2 a3:Int)(a4 a5:Bool)(b0 b1 b2 b3:Int)(b4 b5:Bool){Z h:Hp}{l:List Asrt}(hs:St Z l h):Runs Tryz.prog Γ (.call 143 [.agg [iV a0,iV a1,iV a2,iV a3,bV a4,bV a5,iV b0,iV b1,iV b2,iV b3,bV b4,bV b5]] h) (Ret Z l (bV (cY a0 a1 a2 a3 a4 a5 b0 b1 b2 b3 b4 b5))):=by
 refine gf (Post:=jd Z l (bV (cY a0 a1 a2 a3 a4 a5 b0 b1 b2 b3 b4 b5))) Tryz.f143 Tryz.func143 bm [.agg [vI 0,vI 1,vI 2,vI 3,vB 0,vB 1,vI 4,vI 5,vI 6,vI 7,vB 2,vB 3]] [] ⟨8,0,4,0,0,0⟩ (va {i:=[a0,a1,a2,a3,b0,b1,b2,b3],b:=[a4,a5,b4,b5]}) (.new<|.new<|.new<|.new<|.fork (.beq (.not (.and (.eq (.v 0) (.z 0)) (.eq (.v 1) (.z 0)))) (.not (.and (.eq (.v 4) (.z 0)) (.eq (.v 5) (.z 0))))) (.fork (.beq (.not (.and (.eq (.v 2) (.z 0)) (.eq (.v 3) (.z 0)))) (.not (.and (.eq (.v 6) (.z 0)) (.eq (.v 7) (.z 0))))) (.fork (.and (.eq (.v 0) (.z 0)) (.eq (.v 1) (.z 0))) (.fork (.and (.eq (.v 2) (.z 0)) (.eq (.v 3) (.z 0))) (.ret (TA) [])<|.fork (.bv 0) (.ret (TA) [])<|.fork (.bv 2) (.ret (TA) [])<|.ret (TB) [])<|.fork (.and (.eq (.v 2) (.z 0)) (.eq (.v 3) (.z 0))) (.fork (.bv 1) (.ret (TA) [])<|.ret (.bool (.not (.bv 3))) [])<|.ret (TB) [])<|.ret (TA) [])<|.ret (TA) []) 100000 bm hs rfl ?_;refine bA λbk0=>?_;refine bA λbk1=>?_;refine bA λbk2=>?_;refine bA λbk3=>?_;refine bo ((!((decide (a0=0))&&(decide (a1=0))))=(!((decide (b0=0))&&(decide (b1=0))))) rfl (λcd1=>?_) λcd1=>?_
 .refine bo ((!((decide (a2=0))&&(decide (a3=0))))=(!((decide (b2=0))&&(decide (b3=0))))) rfl (λcd2=>?_) λcd2=>?_
  .refine bo ((a0=0)/\(a1=0)) rfl (λcd3=>?_) λcd3=>?_
   .refine bo ((a2=0)/\(a3=0)) rfl (λcd4=>?_) λcd4=>?_
    .exact bX λh hs=>⟨show(bV false:SV)=_ from by rw[cY,bi cd1,bi cd2,bi cd3,bi cd4],hs.end⟩
    .refine bo (a4=true) rfl (λcd5=>?_) λcd5=>?_
     .exact bX λh hs=>⟨show(bV false:SV)=_ from by rw[cY,bi cd1,bi cd2,bi cd3,bh cd4,bi cd5],hs.end⟩
     .refine bo (b4=true) rfl (λcd6=>?_) λcd6=>?_
      .exact bX λh hs=>⟨show(bV false:SV)=_ from by rw[cY,bi cd1,bi cd2,bi cd3,bh cd4,bh cd5,bi cd6],hs.end⟩
      .exact bX λh hs=>⟨show(bV true:SV)=_ from by rw[cY,bi cd1,bi cd2,bi cd3,bh cd4,bh cd5,bh cd6],hs.end⟩
   .refine bo ((a2=0)/\(a3=0)) rfl (λcd4=>?_) λcd4=>?_
    .refine bo (a5=true) rfl (λcd5=>?_) λcd5=>?_
     .exact bX λh hs=>⟨show(bV false:SV)=_ from by rw[cY,bi cd1,bi cd2,bh cd3,bi cd4,bi cd5],hs.end⟩
     .exact bX λh hs=>⟨show(bV (!b5):SV)=_ from by rw[cY,bi cd1,bi cd2,bh cd3,bi cd4,bh cd5],hs.end⟩
    .exact bX λh hs=>⟨show(bV true:SV)=_ from by rw[cY,bi cd1,bi cd2,bh cd3,bh cd4],hs.end⟩
  .exact bX λh hs=>⟨show(bV false:SV)=_ from by rw[cY,bi cd1,bh cd2],hs.end⟩
 .exact bX λh hs=>⟨show(bV false:SV)=_ from by rw[cY,bh cd1],hs.end⟩
def dF(a:Int):Int:=if a<0 then(IntKind.wrap .u64 (0-(IntKind.wrap .u64 a)))else((IntKind.wrap .u64 a))
theorem Sq(a:Int){Z h:Hp}{l:List Asrt}(hs:St Z l h):Runs Tryz.prog Γ (.call 185 [iV a] h) (Ret Z l (.lit (.int .u64 (dF a)))):=by
 refine gf (Post:=jd Z l (.lit (.int .u64 (dF a)))) Tryz.f185 Tryz.func185 bm [vI 0] [] ⟨1,0,0,0,0,0⟩ (va {i:=[a]}) (.fork (.lt (.v 0) (.z 0)) (.ret (.int .u64 (.wr .u64 (.sub (.z 0) (.wr .u64 (.v 0))))) [])<|.ret (.int .u64 (.wr .u64 (.v 0))) []) 100000 bm hs rfl ?_;refine bo (a<0) rfl (λcd1=>?_) λcd1=>?_
 .exact bX λh hs=>⟨show(.lit (.int .u64 (IntKind.wrap .u64 (0-(IntKind.wrap .u64 a)))):SV)=_ from by rw[dF,bi cd1],hs.end⟩
 .exact bX λh hs=>⟨show(.lit (.int .u64 (IntKind.wrap .u64 a)):SV)=_ from by rw[dF,bh cd1],hs.end⟩
def fU(a b:Int):Int×Int×Int×bn×Bool×Int:=(1,a,b,([]:bn),false,0)
theorem S3(a b:Int){Z h:Hp}{l:List Asrt}(hs:St Z l h):Runs Tryz.prog Γ (.call 108 [.agg [iV a,iV b]] h) (Ret Z l (.agg [iV ((fU a b).1),iV ((fU a b).2.1),iV ((fU a b).2.2.1),sV ((fU a b).2.2.2.1),bV ((fU a b).2.2.2.2.1),iV ((fU a b).2.2.2.2.2)])):=by
 refine gf (Post:=jd Z l (.agg [iV ((fU a b).1),iV ((fU a b).2.1),iV ((fU a b).2.2.1),sV ((fU a b).2.2.2.1),bV ((fU a b).2.2.2.2.1),iV ((fU a b).2.2.2.2.2)])) Tryz.f108 Tryz.func108 bm [.agg [vI 0,vI 1]] [] ⟨2,0,0,0,0,0⟩ (va {i:=[a,b]}) (.new<|.new<|.ret (.agg [I (.z 1),vI 0,vI 1,.txt (.tl []),TA,Fd]) []) 100000 bm hs rfl ?_;refine bA λbk0=>?_;refine bA λbk1=>?_;exact bX λh hs=>⟨show(.agg [iV 1,iV a,iV b,sV ([]:bn),bV false,iV 0]:SV)=_ from by rw[fU],hs.end⟩
def cJ(a:Int):Int×Int×Int×bn×Bool×Int:=if a<1 then(4,0,0,([]:bn),false,9)else(if 9<a then(4,0,0,([]:bn),false,9)else((4,0,0,([]:bn),false,a)))
theorem PS(a:Int){Z h:Hp}{l:List Asrt}(hs:St Z l h):Runs Tryz.prog Γ (.call 106 [iV a] h) (Ret Z l (.agg [iV ((cJ a).1),iV ((cJ a).2.1),iV ((cJ a).2.2.1),sV ((cJ a).2.2.2.1),bV ((cJ a).2.2.2.2.1),iV ((cJ a).2.2.2.2.2)])):=by
 refine gf (Post:=jd Z l (.agg [iV ((cJ a).1),iV ((cJ a).2.1),iV ((cJ a).2.2.1),sV ((cJ a).2.2.2.1),bV ((cJ a).2.2.2.2.1),iV ((cJ a).2.2.2.2.2)])) Tryz.f106 Tryz.func106 bm [vI 0] [] ⟨1,0,0,0,0,0⟩ (va {i:=[a]}) (.new<|.fork (.lt (.v 0) (.z 1)) (.ret (.agg zc0) [])<|.fork (.lt (.z 9) (.v 0)) (.ret (.agg zc0) [])<|.ret (.agg [I (.z 4),Fd,Fd,.txt (.tl []),TA,vI 0]) []) 100000 bm hs rfl ?_;refine bA λbk0=>?_;refine bo (a<1) rfl (λcd1=>?_) λcd1=>?_
 .exact bX λh hs=>⟨show(.agg [iV 4,iV 0,iV 0,sV ([]:bn),bV false,iV 9]:SV)=_ from by rw[cJ,bi cd1],hs.end⟩
 .refine bo (9<a) rfl (λcd2=>?_) λcd2=>?_
  .exact bX λh hs=>⟨show(.agg [iV 4,iV 0,iV 0,sV ([]:bn),bV false,iV 9]:SV)=_ from by rw[cJ,bh cd1,bi cd2],hs.end⟩
  .exact bX λh hs=>⟨show(.agg [iV 4,iV 0,iV 0,sV ([]:bn),bV false,iV a]:SV)=_ from by rw[cJ,bh cd1,bh cd2],hs.end⟩
def da(s:bn):Int×Int×Int×bn×Bool×Int:=if 255<(s.length:Int)then(((cJ 2).1),((cJ 2).2.1),((cJ 2).2.2.1),((cJ 2).2.2.2.1),((cJ 2).2.2.2.2.1),((cJ 2).2.2.2.2.2))else((2,0,0,s,false,0))
theorem Su(s:bn){Z h:Hp}{l:List Asrt}(hs:St Z l h):Runs Tryz.prog Γ (.call 63 [sV s] h) (Ret Z l (.agg [iV ((da s).1),iV ((da s).2.1),iV ((da s).2.2.1),sV ((da s).2.2.2.1),bV ((da s).2.2.2.2.1),iV ((da s).2.2.2.2.2)])):=by
 refine gf (Post:=jd Z l (.agg [iV ((da s).1),iV ((da s).2.1),iV ((da s).2.2.1),sV ((da s).2.2.2.1),bV ((da s).2.2.2.2.1),iV ((da s).2.2.2.2.2)])) Tryz.f63 Tryz.func63 bm [vT 0] [] ⟨0,1,0,0,0,0⟩ (va {t:=[s]}) (.new<|.fork (.lt (.z 255) (.len (.tv 0))) (.call 106 [I (.z 2)] [] (.agg zc1) [] ⟨4,2,1,0,1,0⟩<|.ret (.agg zc1) [])<|.ret (.agg [I (.z 2),Fd,Fd,vT 0,TA,Fd]) []) 100000 bm hs rfl ?_;refine bA λbk0=>?_;refine bo (255<(s.length:Int)) rfl (λcd1=>?_) λcd1=>?_
 .refine cU {i:=[((cJ 2).1),((cJ 2).2.1),((cJ 2).2.2.1),((cJ 2).2.2.2.2.2)],t:=[((cJ 2).2.2.2.1)],b:=[((cJ 2).2.2.2.2.1)]} (λl h hs=>PS Γ 2 hs) ?_;exact bX λh hs=>⟨show(.agg [iV ((cJ 2).1),iV ((cJ 2).2.1),iV ((cJ 2).2.2.1),sV ((cJ 2).2.2.2.1),bV ((cJ 2).2.2.2.2.1),iV ((cJ 2).2.2.2.2.2)]:SV)=_ from by rw[da,bi cd1],hs.end⟩
 .exact bX λh hs=>⟨show(.agg [iV 2,iV 0,iV 0,sV s,bV false,iV 0]:SV)=_ from by rw[da,bh cd1],hs.end⟩
def cF(a:Bool):Int×Int×Int×bn×Bool×Int:=(3,0,0,([]:bn),a,0)
theorem Th(a:Bool){Z h:Hp}{l:List Asrt}(hs:St Z l h):Runs Tryz.prog Γ (.call 110 [bV a] h) (Ret Z l (.agg [iV ((cF a).1),iV ((cF a).2.1),iV ((cF a).2.2.1),sV ((cF a).2.2.2.1),bV ((cF a).2.2.2.2.1),iV ((cF a).2.2.2.2.2)])):=by
 refine gf (Post:=jd Z l (.agg [iV ((cF a).1),iV ((cF a).2.1),iV ((cF a).2.2.1),sV ((cF a).2.2.2.1),bV ((cF a).2.2.2.2.1),iV ((cF a).2.2.2.2.2)])) Tryz.f110 Tryz.func110 bm [vB 0] [] ⟨0,0,1,0,0,0⟩ (va {b:=[a]}) (.new<|.ret (.agg [I (.z 3),Fd,Fd,.txt (.tl []),vB 0,Fd]) []) 100000 bm hs rfl ?_;refine bA λbk0=>?_;exact bX λh hs=>⟨show(.agg [iV 3,iV 0,iV 0,sV ([]:bn),bV a,iV 0]:SV)=_ from by rw[cF],hs.end⟩
def jA(p0 p1 p2:Int)(p3:bn)(p4:Bool)(p5 q0 q1 q2:Int)(q3:bn)(q4:Bool)(q5:Int):Bool:=((decide (p0=q0))&&(((decide (p1=q1))&&(decide (p2=q2)))&&((decide (p3=q3))&&((p4==q4)&&(decide (p5=q5))))))
theorem Sb(p0 p1 p2:Int)(p3:bn)(p4:Bool)(p5 q0 q1 q2:Int)(q3:bn)(q4:Bool)(q5:Int){Z h:Hp}{l:List Asrt}(hs:St Z l h):Runs Tryz.prog Γ (.call 132 [.agg [iV p0,iV p1,iV p2,sV p3,bV p4,iV p5],.agg [iV q0,iV q1,iV q2,sV q3,bV q4,iV q5]] h) (Ret Z l (bV (jA p0 p1 p2 p3 p4 p5 q0 q1 q2 q3 q4 q5))):=by
 refine gf (Post:=jd Z l (bV (jA p0 p1 p2 p3 p4 p5 q0 q1 q2 q3 q4 q5))) Tryz.f132 Tryz.func132 bm [.agg [vI 0,vI 1,vI 2,vT 0,vB 0,vI 3],.agg [vI 4,vI 5,vI 6,vT 1,vB 1,vI 7]] [] ⟨8,2,2,0,0,0⟩ (va {i:=[p0,p1,p2,p5,q0,q1,q2,q5],t:=[p3,q3],b:=[p4,q4]}) (.new<|.new<|.ret (.bool (.and (.eq (.v 0) (.v 4)) (.and (.and (.eq (.v 1) (.v 5)) (.eq (.v 2) (.v 6))) (.and (.teq (.tv 0) (.tv 1)) (.and (.beq (.bv 0) (.bv 1)) (.eq (.v 3) (.v 7))))))) []) 100000 bm hs rfl ?_;refine bA λbk0=>?_;refine bA λbk1=>?_;exact bX λh hs=>⟨show(bV ((decide (p0=q0))&&(((decide (p1=q1))&&(decide (p2=q2)))&&((decide (p3=q3))&&((p4==q4)&&(decide (p5=q5)))))):SV)=_ from by rw[jA],hs.end⟩
abbrev zd0:List XV:=[vI 0,vI 1,vI 2,vT 0,vB 0,vI 3]
abbrev zd1:List XV:=[vI 4,vI 5,vI 6,vT 1,vB 1,vI 7]
theorem Kd0{P:Prop}(h:P:=by first|omega|(and_intros<;>intros<;>and_intros<;>first|omega|assumption|(rw[Ha _ bj];omega)|exact Hv hi.2.2.2 bj bj|exact V1)):P:=h
def iw(z:Int):Int:=if h:z<10 then 1 else iw (z/10)+1
termination_by z.toNat
decreasing_by omega
theorem uH{z:Int}(h:z<10):iw z=1:=by rw[iw,dif_pos h]
theorem B4{z:Int}(h:¬z<10):iw z=iw (z/10)+1:=by rw[iw,dif_neg h]
theorem xR:∀(n:Nat) (z:Int),z.toNat<=n->1<=iw z/\(0<=z->iw z<=z+1)
 |0,z,h=>by rw[uH bj];omega
 |n+1,z,h=>by
  by_cases h1:z<10
  .rw[uH h1];omega
  .have:=xR n (z/10) bj;rw[B4 h1];omega
theorem Ha(y:Int)(h:0<=y/\y<18446744073709551616):IntKind.wrap .u64 (Int.tdiv y 10)=y/10:=by
 have e:∀z:Int,IntKind.wrap .u64 z=z%18446744073709551616:=λ_=>rfl;rw[e,Int.tdiv_eq_ediv_of_nonneg h.1];omega
theorem oV(a:Int):0<=dF a/\dF a<18446744073709551616:=by
 have w:∀z:Int,0<=IntKind.wrap .u64 z/\IntKind.wrap .u64 z<18446744073709551616:=λz=>by
  rw[show IntKind.wrap .u64 z=z%18446744073709551616 from rfl];exact⟨Int.emod_nonneg _ (by decide),Int.emod_lt_of_pos _ (by decide)⟩
 unfold dF;split<;>exact w _
theorem Hv{z y c:Int}(h:iw z=iw y+(c-1))(h1:¬y<10)(h2:0<=y/\y<18446744073709551616):iw z=iw (IntKind.wrap .u64 (Int.tdiv y 10))+(c+1-1):=by
 rw[Ha y h2,h,B4 h1];omega
theorem Ju{z y c:Int}(h:iw z=iw y+(c-1))(h1:y<10):iw z=c:=by
 rw[h,uH h1];omega
theorem LQ(z:Int)(hz:0<=z/\z<18446744073709551616){l:List Asrt}:∀(m:Nat) (Z:Hp) (y c:Int) (hi:0<=y/\y<18446744073709551616/\(1<=c/\9*(c-1)+y<=z)/\iw z=iw y+(c-1)) (hm:y.toNat<m),den (fnC Tryz.prog Γ Tryz.f186 1 [] l (jd Z l (iV (iw z)))) (.stop [0,0,1,1] [(0,.int .u64 (.v 1)),(3,vI 2)] []) ⟨3,0,0,0,0,0⟩ (va {i:=[z,y,c]}) Z:=by
 intro m
 induction m with
 |zero=>intros;omega
 |succ m ih=>
  intro Z y c hi hm;refine cZ [0,0,1,1] [(0,.int .u64 (.v 1)),(3,vI 2)] [] [] ⟨3,0,0,0,0,0⟩ (.fork (.le (.z 10) (.v 1)) (.vc (xI (.add (.v 2) (.z 1)))<|.stop [0,0,1,1] [(0,.int .u64 (.wr .u64 (.quo (.v 1) (.z 10)))),(3,I (.add (.v 2) (.z 1)))] [])<|.ret (vI 2) []) 100000 bm (λ_ h=>by cases h) ?_;refine bo (10<=y) rfl (λcd1=>?_) λcd1=>?_
  .refine bE (show I6 (c+1)from Kd0) ?_;exact bu (ih _ (IntKind.wrap .u64 (Int.tdiv y 10)) (c+1) Kd0 Kd0) rfl rfl
  .exact bX λh hs=>⟨show(iV c:SV)=_ from by rw[Ju hi.2.2.2 bj],hs.end⟩
theorem Rq(z:Int)(hz:0<=z/\z<18446744073709551616){Z h:Hp}{l:List Asrt}(hs:St Z l h):Runs Tryz.prog Γ (.call 186 [.lit (.int .u64 z)] h) (Ret Z l (iV (iw z))):=by
 refine gf (Post:=jd Z l (iV (iw z))) Tryz.f186 Tryz.func186 bm [.int .u64 (.v 0)] [] ⟨1,0,0,0,0,0⟩ (va {i:=[z]}) (.stop [0,0,1,1] [(0,.int .u64 (.v 0)),(3,I (.z 1))] []) 100000 bm hs rfl ?_;exact bu (LQ Γ z hz _ _ z 1 Kd0 (aq _)) rfl rfl
def eI(nm ne:Int):Bool:=if nm=0 then(decide (ne=0))else(if 1000000000000000<=(dF nm)then false else(if(Int.tmod (dF nm) 10)=0 then false else(if ne<(-40)then false else(if 40<=ne then false else((decide (((iw (dF nm))+ne)<=40)))))))
theorem R7(nm ne:Int){Z h:Hp}{l:List Asrt}(hs:St Z l h):Runs Tryz.prog Γ (.call 134 [.agg [iV nm,iV ne]] h) (Ret Z l (bV (eI nm ne))):=by
 refine gf (Post:=jd Z l (bV (eI nm ne))) Tryz.f134 Tryz.func134 bm [.agg [vI 0,vI 1]] [] ⟨2,0,0,0,0,0⟩ (va {i:=[nm,ne]}) (.new<|.fork (.eq (.v 0) (.z 0)) (.ret (.bool (.eq (.v 1) (.z 0))) [])<|.call 185 [vI 0] [] (.int .u64 (.v 2)) [] ⟨3,0,0,0,1,0⟩<|.fork (.le (.z 1000000000000000) (.v 2)) (.ret (TA) [])<|.fork (.eq (.rem (.v 2) (.z 10)) (.z 0)) (.ret (TA) [])<|.fork (.lt (.v 1) (.z (-40))) (.ret (TA) [])<|.fork (.le (.z 40) (.v 1)) (.ret (TA) [])<|.call 186 [.int .u64 (.v 2)] [] (vI 3) [] ⟨4,0,0,0,1,0⟩<|.vc (xI (.add (.v 3) (.v 1)))<|.ret (.bool (.le (.add (.v 3) (.v 1)) (.z 40))) []) 100000 bm hs rfl ?_;refine bA λbk0=>?_;refine bo (nm=0) rfl (λcd1=>?_) λcd1=>?_
 .exact bX λh hs=>⟨show(bV (decide (ne=0)):SV)=_ from by rw[eI,bi cd1],hs.end⟩
 .refine cU {i:=[(dF nm)]} (λl h hs=>Sq Γ nm hs) ?_;refine bo (1000000000000000<=(dF nm)) rfl (λcd2=>?_) λcd2=>?_
  .exact bX λh hs=>⟨show(bV false:SV)=_ from by rw[eI,bh cd1,bi cd2],hs.end⟩
  .refine bo ((Int.tmod (dF nm) 10)=0) rfl (λcd3=>?_) λcd3=>?_
   .exact bX λh hs=>⟨show(bV false:SV)=_ from by rw[eI,bh cd1,bh cd2,bi cd3],hs.end⟩
   .refine bo (ne<(-40)) rfl (λcd4=>?_) λcd4=>?_
    .exact bX λh hs=>⟨show(bV false:SV)=_ from by rw[eI,bh cd1,bh cd2,bh cd3,bi cd4],hs.end⟩
    .refine bo (40<=ne) rfl (λcd5=>?_) λcd5=>?_
     .exact bX λh hs=>⟨show(bV false:SV)=_ from by rw[eI,bh cd1,bh cd2,bh cd3,bh cd4,bi cd5],hs.end⟩
     .refine cU {i:=[(iw (dF nm))]} (λl h hs=>Rq Γ (dF nm) (by first|exact oV _|omega) hs) ?_;refine bE (show I6 ((iw (dF nm))+ne)from by first|omega|(have w1:=xR _ (dF nm) (av _);have w2:=oV nm;omega)) ?_;exact bX λh hs=>⟨show(bV (decide (((iw (dF nm))+ne)<=40)):SV)=_ from by rw[eI,bh cd1,bh cd2,bh cd3,bh cd4,bh cd5],hs.end⟩
def ey(k m e:Int)(s:bn)(b0:Bool)(f:Int):Bool:=if k=0 then((decide (k=0))&&(((decide (m=0))&&(decide (e=0)))&&((decide (s=([]:bn)))&&((!b0)&&(decide (f=0))))))else(if k=1 then if(eI m e)=true then((decide (k=((fU m e).1)))&&(((decide (m=((fU m e).2.1)))&&(decide (e=((fU m e).2.2.1))))&&((decide (s=((fU m e).2.2.2.1)))&&((b0==((fU m e).2.2.2.2.1))&&(decide (f=((fU m e).2.2.2.2.2)))))))else(false)else(if k=2 then((decide (k=((da s).1)))&&(((decide (m=((da s).2.1)))&&(decide (e=((da s).2.2.1))))&&((decide (s=((da s).2.2.2.1)))&&((b0==((da s).2.2.2.2.1))&&(decide (f=((da s).2.2.2.2.2)))))))else(if k=3 then((decide (k=((cF b0).1)))&&(((decide (m=((cF b0).2.1)))&&(decide (e=((cF b0).2.2.1))))&&((decide (s=((cF b0).2.2.2.1)))&&((b0==((cF b0).2.2.2.2.1))&&(decide (f=((cF b0).2.2.2.2.2)))))))else(if k=4 then((decide (k=((cJ f).1)))&&(((decide (m=((cJ f).2.1)))&&(decide (e=((cJ f).2.2.1))))&&((decide (s=((cJ f).2.2.2.1)))&&((b0==((cJ f).2.2.2.2.1))&&(decide (f=((cJ f).2.2.2.2.2)))))))else(false)))))
theorem OH(k m e:Int)(s:bn)(b0:Bool)(f:Int){Z h:Hp}{l:List Asrt}(hs:St Z l h):Runs Tryz.prog Γ (.call 87 [.agg [iV k,iV m,iV e,sV s,bV b0,iV f]] h) (Ret Z l (bV (ey k m e s b0 f))):=by
 refine gf (Post:=jd Z l (bV (ey k m e s b0 f))) Tryz.f87 Tryz.func87 bm [.agg zd0] [] ⟨4,1,1,0,0,0⟩ (va {i:=[k,m,e,f],t:=[s],b:=[b0]}) (.new<|.fork (.eq (.v 0) (.z 0)) (.ret (.bool (.and (.eq (.v 0) (.z 0)) (.and (.and (.eq (.v 1) (.z 0)) (.eq (.v 2) (.z 0))) (.and (.teq (.tv 0) (.tl [])) (.and (.not (.bv 0)) (.eq (.v 3) (.z 0))))))) [])<|.fork (.eq (.v 0) (.z 1)) (.call 134 [.agg [vI 1,vI 2]] [] (vB 1) [] ⟨4,1,2,0,1,0⟩<|.fork (.bv 1) (.call 108 [.agg [vI 1,vI 2]] [] (.agg [vI 4,vI 5,vI 6,vT 1,vB 2,vI 7]) [] ⟨8,2,3,0,1,0⟩<|.ret (.bool (.and (.eq (.v 0) (.v 4)) (.and (.and (.eq (.v 1) (.v 5)) (.eq (.v 2) (.v 6))) (.and (.teq (.tv 0) (.tv 1)) (.and (.beq (.bv 0) (.bv 2)) (.eq (.v 3) (.v 7))))))) [])<|.ret (TA) [])<|.fork (.eq (.v 0) (.z 2)) (.call 63 [vT 0] [] (.agg zd1) [] ⟨8,2,2,0,1,0⟩<|.ret (.bool (.and (.eq (.v 0) (.v 4)) (.and (.and (.eq (.v 1) (.v 5)) (.eq (.v 2) (.v 6))) (.and (.teq (.tv 0) (.tv 1)) (.and (.beq (.bv 0) (.bv 1)) (.eq (.v 3) (.v 7))))))) [])<|.fork (.eq (.v 0) (.z 3)) (.call 110 [vB 0] [] (.agg zd1) [] ⟨8,2,2,0,1,0⟩<|.ret (.bool (.and (.eq (.v 0) (.v 4)) (.and (.and (.eq (.v 1) (.v 5)) (.eq (.v 2) (.v 6))) (.and (.teq (.tv 0) (.tv 1)) (.and (.beq (.bv 0) (.bv 1)) (.eq (.v 3) (.v 7))))))) [])<|.fork (.eq (.v 0) (.z 4)) (.call 106 [vI 3] [] (.agg zd1) [] ⟨8,2,2,0,1,0⟩<|.ret (.bool (.and (.eq (.v 0) (.v 4)) (.and (.and (.eq (.v 1) (.v 5)) (.eq (.v 2) (.v 6))) (.and (.teq (.tv 0) (.tv 1)) (.and (.beq (.bv 0) (.bv 1)) (.eq (.v 3) (.v 7))))))) [])<|.ret (TA) []) 100000 bm hs rfl ?_;refine bA λbk0=>?_;refine bo (k=0) rfl (λcd1=>?_) λcd1=>?_
 .exact bX λh hs=>⟨show(bV ((decide (k=0))&&(((decide (m=0))&&(decide (e=0)))&&((decide (s=([]:bn)))&&((!b0)&&(decide (f=0)))))):SV)=_ from by rw[ey,bi cd1],hs.end⟩
 .refine bo (k=1) rfl (λcd2=>?_) λcd2=>?_
  .refine cU {b:=[(eI m e)]} (λl h hs=>R7 Γ m e hs) ?_;refine bo ((eI m e)=true) rfl (λcd3=>?_) λcd3=>?_
   .refine cU {i:=[((fU m e).1),((fU m e).2.1),((fU m e).2.2.1),((fU m e).2.2.2.2.2)],t:=[((fU m e).2.2.2.1)],b:=[((fU m e).2.2.2.2.1)]} (λl h hs=>S3 Γ m e hs) ?_;exact bX λh hs=>⟨show(bV ((decide (k=((fU m e).1)))&&(((decide (m=((fU m e).2.1)))&&(decide (e=((fU m e).2.2.1))))&&((decide (s=((fU m e).2.2.2.1)))&&((b0==((fU m e).2.2.2.2.1))&&(decide (f=((fU m e).2.2.2.2.2))))))):SV)=_ from by rw[ey,bh cd1,bi cd2,bi cd3],hs.end⟩
   .exact bX λh hs=>⟨show(bV false:SV)=_ from by rw[ey,bh cd1,bi cd2,bh cd3],hs.end⟩
  .refine bo (k=2) rfl (λcd3=>?_) λcd3=>?_
   .refine cU {i:=[((da s).1),((da s).2.1),((da s).2.2.1),((da s).2.2.2.2.2)],t:=[((da s).2.2.2.1)],b:=[((da s).2.2.2.2.1)]} (λl h hs=>Su Γ s hs) ?_;exact bX λh hs=>⟨show(bV ((decide (k=((da s).1)))&&(((decide (m=((da s).2.1)))&&(decide (e=((da s).2.2.1))))&&((decide (s=((da s).2.2.2.1)))&&((b0==((da s).2.2.2.2.1))&&(decide (f=((da s).2.2.2.2.2))))))):SV)=_ from by rw[ey,bh cd1,bh cd2,bi cd3],hs.end⟩
   .refine bo (k=3) rfl (λcd4=>?_) λcd4=>?_
    .refine cU {i:=[((cF b0).1),((cF b0).2.1),((cF b0).2.2.1),((cF b0).2.2.2.2.2)],t:=[((cF b0).2.2.2.1)],b:=[((cF b0).2.2.2.2.1)]} (λl h hs=>Th Γ b0 hs) ?_;exact bX λh hs=>⟨show(bV ((decide (k=((cF b0).1)))&&(((decide (m=((cF b0).2.1)))&&(decide (e=((cF b0).2.2.1))))&&((decide (s=((cF b0).2.2.2.1)))&&((b0==((cF b0).2.2.2.2.1))&&(decide (f=((cF b0).2.2.2.2.2))))))):SV)=_ from by rw[ey,bh cd1,bh cd2,bh cd3,bi cd4],hs.end⟩
    .refine bo (k=4) rfl (λcd5=>?_) λcd5=>?_
     .refine cU {i:=[((cJ f).1),((cJ f).2.1),((cJ f).2.2.1),((cJ f).2.2.2.2.2)],t:=[((cJ f).2.2.2.1)],b:=[((cJ f).2.2.2.2.1)]} (λl h hs=>PS Γ f hs) ?_;exact bX λh hs=>⟨show(bV ((decide (k=((cJ f).1)))&&(((decide (m=((cJ f).2.1)))&&(decide (e=((cJ f).2.2.1))))&&((decide (s=((cJ f).2.2.2.1)))&&((b0==((cJ f).2.2.2.2.1))&&(decide (f=((cJ f).2.2.2.2.2))))))):SV)=_ from by rw[ey,bh cd1,bh cd2,bh cd3,bh cd4,bi cd5],hs.end⟩
     .exact bX λh hs=>⟨show(bV false:SV)=_ from by rw[ey,bh cd1,bh cd2,bh cd3,bh cd4,bh cd5],hs.end⟩
def fy(k m e:Int)(s:bn)(b0:Bool)(f:Int)(im:Bool):Bool:=if k=0 then false else(if(ey k m e s b0 f)=true then if im=true then true else((decide (0<=m)))else(false))
theorem RY(k m e:Int)(s:bn)(b0:Bool)(f:Int)(im:Bool){Z h:Hp}{l:List Asrt}(hs:St Z l h):Runs Tryz.prog Γ (.call 141 [.agg [iV k,iV m,iV e,sV s,bV b0,iV f],bV im] h) (Ret Z l (bV (fy k m e s b0 f im))):=by
 refine gf (Post:=jd Z l (bV (fy k m e s b0 f im))) Tryz.f141 Tryz.func141 bm [.agg zd0,vB 1] [] ⟨4,1,2,0,0,0⟩ (va {i:=[k,m,e,f],t:=[s],b:=[b0,im]}) (.new<|.fork (.eq (.v 0) (.z 0)) (.ret (TA) [])<|.call 87 [.agg zd0] [] (vB 2) [] ⟨4,1,3,0,1,0⟩<|.fork (.bv 2) (.fork (.bv 1) (.ret (TB) [])<|.ret (.bool (.le (.z 0) (.v 1))) [])<|.ret (TA) []) 100000 bm hs rfl ?_;refine bA λbk0=>?_;refine bo (k=0) rfl (λcd1=>?_) λcd1=>?_
 .exact bX λh hs=>⟨show(bV false:SV)=_ from by rw[fy,bi cd1],hs.end⟩
 .refine cU {b:=[(ey k m e s b0 f)]} (λl h hs=>OH Γ k m e s b0 f hs) ?_;refine bo ((ey k m e s b0 f)=true) rfl (λcd2=>?_) λcd2=>?_
  .refine bo (im=true) rfl (λcd3=>?_) λcd3=>?_
   .exact bX λh hs=>⟨show(bV true:SV)=_ from by rw[fy,bh cd1,bi cd2,bi cd3],hs.end⟩
   .exact bX λh hs=>⟨show(bV (decide (0<=m)):SV)=_ from by rw[fy,bh cd1,bi cd2,bh cd3],hs.end⟩
  .exact bX λh hs=>⟨show(bV false:SV)=_ from by rw[fy,bh cd1,bh cd2],hs.end⟩
abbrev ze0:List (Nat×XV):=[(0,vT 0),(3,vI 0),(7,.slice 0 0 2 2),(8,I (.z 2)),(9,I (.add (.v 1) (.z 1)))]
abbrev ze1:List (Nat×XV):=[(0,vT 0),(3,vI 0),(7,.slice 0 0 2 2),(8,I (.z 2)),(9,vI 1)]
abbrev ze2:List (Nat×XV):=[(0,vT 0),(22,.raw 0),(23,vI 0),(24,I (.add (.v 1) (.z 1)))]
abbrev ze3:List (Nat×XV):=[(0,vT 0),(27,.raw 0),(28,vI 0),(29,I (.add (.v 1) (.z 1)))]
abbrev ze4:List (Nat×XV):=[(0,vT 0),(22,.raw 0),(23,vI 0),(24,vI 1)]
abbrev ze5:List (Nat×XV):=[(0,vT 0),(27,.raw 0),(28,vI 0),(29,vI 1)]
theorem Ke0{P:Prop}(h:P:=by first|omega|(and_intros<;>intros<;>and_intros<;>first|omega|assumption|exact Q6 _ _|exact xZ hi.2.2.2 bj (by simp[jo, *])|(simp[gM, *];done)|(simp[gM, *];omega)|(have w1:=AR s;have w2:=Gy s;omega)|(cases s with|nil=>exact absurd rfl (by assumption)|cons a t=>simp only[au];omega)|exact V1)):P:=h
theorem Ke2{P:Prop}(h:P:=by first|omega|(and_intros<;>intros<;>and_intros<;>first|omega|assumption|exact MD|exact Fz hi.2.2.2 bj cd2 cd3|exact CV hi.2.2.2 bj (.inr cd3)|exact CV hi.2.2.2 bj (.inl cd2)|(have h3:=tFl s (x+1) bj;have h4:=qr (bZ s (x+1));omega)|exact V1)):P:=h
theorem Ke3{P:Prop}(h:P:=by first|omega|(and_intros<;>intros<;>and_intros<;>first|omega|assumption|exact Q6 _ _|exact xZ hi.2.2.2 bj (by simp[kH, *])|(simp[je, *];done)|(simp[je, *];omega)|(have w1:=AR s;have w2:=Gy s;omega)|(cases s with|nil=>exact absurd rfl (by assumption)|cons a t=>simp only[au];omega)|exact V1)):P:=h
theorem Ke4{P:Prop}(h:P:=by first|omega|(have h1:=hi.1;have h2:=hi.2.1;omega)|(have h1:=hi.1;have h2:=hi.2.1;rw[tFl _ _ bj];omega)|(have h1:=hi.1;have h2:=hi.2.1;have h3:=tFl s x bj;have h4:=qr (bZ s x);omega)):P:=h
def spL(s:bn):Int:=(jR j8 s:Nat)
def spD(s:bn):Int:=dOf (bZ s (spL s))
theorem AR(s:bn):0<=spL s/\spL s<=(s.length:Int):=⟨by unfold spL;omega,by have:=G4 j8 s;unfold spL;omega⟩
theorem pX{s:bn}{x:Int}(h:HdIn j8 s x)(he:¬x<(s.length:Int)\/¬j8 (bAt s x)=true):x=spL s:=(qa h he).symm
theorem tFl(s:bn)(n:Int)(h:0<=n/\n<=(s.length:Int)):((bZ s n).length:Int)=(s.length:Int)-n:=by
 simp only[bZ,aR];omega
theorem Gy(s:bn):0<=spD s/\spL s+spD s<=(s.length:Int):=by
 have h1:=qr (bZ s (spL s));have h2:=tFl s _ (AR s);unfold spD;omega
def seenAt(s:bn)(c x:Int):Int:=if x<(s.length:Int)/\bAt s x=c then x+1+dOf (bZ s (x+1))else x
def wL(s:bn):Bool:=decide (seenAt s 67 (seenAt s 82 0)=(s.length:Int))
def kH(z:Int):Bool:=j8 z||(qz z||decide (z=46))
def jo(z:Int):Bool:=j8 z||(qz z||(decide (z=95)||decide (z=46)))
def je(s:bn):Bool:= !decide (s=[])&&(decide ((s.length:Int)<=32)&&j8 (bAt s 0))
def gM(s:bn):Bool:= !decide (s=[])&&(decide ((s.length:Int)<=32)&&(j8 (bAt s 0)||decide (bAt s 0=95)))
def bK(s:bn):Bool:=if je s=true then(if jR kH s=s.length then !(decide (spL s+spD s=(s.length:Int))&&(decide (spL s<=3)&&(decide (1<=spD s)&&(decide (spD s<=7)&& !decide (bAt s (spL s)=48)))))else false)else false
def bG(s:bn):Bool:=if gM s=true then(if jR jo s=s.length then(if s=[84,82,85,69]then false else if s=[70,65,76,83,69]then false else if wL s=true then false else
 !(decide (spL s+spD s=(s.length:Int))&&(decide (1<=spL s)&&(decide (spL s<=3)&&decide (1<=spD s)))))else false)else false
structure HdS(p:Int->Bool)(s:bn)(x:Int):Prop where
 h:HdIn p s x
theorem Q6(p:Int->Bool)(s:bn):HdS p s 0:=⟨vN p s⟩
theorem cf{p:Int->Bool}{s:bn}{x:Int}(h:HdS p s x)(he:¬x<(s.length:Int)):jR p s=s.length:=by
 have:=qa h.h (.inl he);have h1:=h.h.2.1;omega
theorem dP{p:Int->Bool}{s:bn}{x:Int}(h:HdS p s x)(h1:x<(s.length:Int))(he:¬p ((lget s x).toNat:Int)=true):jR p s≠s.length:=by
 have:=qa h.h (.inr he);omega
theorem xZ{p:Int->Bool}{s:bn}{x:Int}(h:HdS p s x)(h1:x<(s.length:Int))(h2:p ((lget s x).toNat:Int)=true):HdS p s (x+1):=⟨wa h.h h1 h2⟩
theorem Na(s:bn)(hl:(s.length:Int)<=1000000){l:List Asrt}:∀(m:Nat) (Z:Hp) (x:Int) (hi:HdIn j8 s x) (hm:((s.length:Int)-x).toNat<m),den (fnC Tryz.prog Γ Tryz.f201 1 [] l (jd Z l (.tuple [iV (spL s),iV (spD s),bV (decide (spL s+spD s=(s.length:Int)))]))) (.stop [0,0,1] [(0,vT 0),(2,vI 0)] []) ⟨1,1,0,0,0,0⟩ (va {i:=[x],t:=[s]}) Z:=by
 intro m
 induction m with
 |zero=>intros;omega
 |succ m ih=>
  intro Z x hi hm;refine cZ [0,0,1] [(0,vT 0),(2,vI 0)] [] [] ⟨1,1,0,0,0,0⟩ (.fork (.lt (.v 0) (.len (.tv 0))) (.vc (.le (.z 0) (.v 0))<|.vc (.lt (.v 0) (.len (.tv 0)))<|.call 199 [.int .u8 (.at (.tv 0) (.v 0))] [] (vB 0) [] ⟨1,1,1,0,0,0⟩<|.fork (.bv 0) (.vc (xI (.add (.v 0) (.z 1)))<|.stop [0,0,1] [(0,vT 0),(2,I (.add (.v 0) (.z 1)))] [])<|.vc (.le (.z 0) (.v 0))<|.vc (.le (.v 0) (.len (.tv 0)))<|.call 218 [.txt (.tfr (.tv 0) (.v 0))] [] (vI 1) [] ⟨2,1,1,0,0,0⟩<|.vc (xI (.add (.v 0) (.v 1)))<|.vc (xI (.sub (.add (.v 0) (.v 1)) (.v 0)))<|.ret (.tup [vI 0,I (.sub (.add (.v 0) (.v 1)) (.v 0)),.bool (.eq (.add (.v 0) (.v 1)) (.len (.tv 0)))]) [])<|.vc (.le (.z 0) (.v 0))<|.vc (.le (.v 0) (.len (.tv 0)))<|.call 218 [.txt (.tfr (.tv 0) (.v 0))] [] (vI 1) [] ⟨2,1,0,0,0,0⟩<|.vc (xI (.add (.v 0) (.v 1)))<|.vc (xI (.sub (.add (.v 0) (.v 1)) (.v 0)))<|.ret (.tup [vI 0,I (.sub (.add (.v 0) (.v 1)) (.v 0)),.bool (.eq (.add (.v 0) (.v 1)) (.len (.tv 0)))]) []) 100000 bm (λ_ h=>by cases h) ?_;refine bo (x<(s.length:Int)) rfl (λcd1=>?_) λcd1=>?_
  .refine bE (show 0<=x from Ke4) ?_;refine bE (show x<(s.length:Int)from Ke4) ?_;refine cU {b:=[(j8 (bAt s x))]} (λl h hs=>Gk Γ (bAt s x) hs) ?_;refine bo ((j8 (bAt s x))=true) rfl (λcd2=>?_) λcd2=>?_
   .refine bE (show I6 (x+1)from Ke4) ?_;exact bu (ih _ (x+1) TK TK) rfl rfl
   .refine bE (show 0<=x from Ke4) ?_;refine bE (show x<=(s.length:Int)from Ke4) ?_;refine cU {i:=[(dOf (bZ s x))]} (λl h hs=>GJ Γ (bZ s x) TM hs) ?_;refine bE (show I6 (x+(dOf (bZ s x)))from Ke4) ?_;refine bE (show I6 ((x+(dOf (bZ s x)))-x)from Ke4) ?_;exact bX λh hs=>⟨show(.tuple [iV x,iV ((x+(dOf (bZ s x)))-x),bV (decide ((x+(dOf (bZ s x)))=(s.length:Int)))]:SV)=_ from by rw[<-pX hi TL];simp[spD,<-pX hi TL];try omega,hs.end⟩
  .refine bE (show 0<=x from Ke4) ?_;refine bE (show x<=(s.length:Int)from Ke4) ?_;refine cU {i:=[(dOf (bZ s x))]} (λl h hs=>GJ Γ (bZ s x) TM hs) ?_;refine bE (show I6 (x+(dOf (bZ s x)))from Ke4) ?_;refine bE (show I6 ((x+(dOf (bZ s x)))-x)from Ke4) ?_;exact bX λh hs=>⟨show(.tuple [iV x,iV ((x+(dOf (bZ s x)))-x),bV (decide ((x+(dOf (bZ s x)))=(s.length:Int)))]:SV)=_ from by rw[<-pX hi TL];simp[spD,<-pX hi TL];try omega,hs.end⟩
theorem QB(s:bn)(hl:(s.length:Int)<=1000000){Z h:Hp}{l:List Asrt}(hs:St Z l h):Runs Tryz.prog Γ (.call 201 [sV s] h) (Ret Z l (.tuple [iV (spL s),iV (spD s),bV (decide (spL s+spD s=(s.length:Int)))])):=by
 refine gf (Post:=jd Z l (.tuple [iV (spL s),iV (spD s),bV (decide (spL s+spD s=(s.length:Int)))])) Tryz.f201 Tryz.func201 bm [vT 0] [] ⟨0,1,0,0,0,0⟩ (va {t:=[s]}) (.stop [0,0,1] [(0,vT 0),(2,Fd)] []) 100000 bm hs rfl ?_;exact bu (Na Γ s hl _ _ 0 TK (aq _)) rfl rfl
structure SeenI(s:bn)(ix x:Int):Prop where
 a:(ix=0/\x=0)\/(ix=1/\x=seenAt s 82 0)\/(ix=2/\x=seenAt s 67 (seenAt s 82 0))
theorem MD{s:bn}:SeenI s 0 0:=⟨.inl ⟨rfl,rfl⟩⟩
theorem t6{s:bn}{ix x y:Int}(w:SeenI s ix x)(h:ix<2)(e:seenAt s ((lget ([82,67]:bn) ix).toNat:Int) x=y):SeenI s (ix+1) y:=by
 obtain⟨⟨rfl,rfl⟩|⟨rfl,rfl⟩|⟨rfl,rfl⟩⟩:=w
 .exact⟨.inr (.inl ⟨rfl,e.symm⟩)⟩
 .exact⟨.inr (.inr ⟨rfl,e.symm⟩)⟩
 .omega
theorem Fz{s:bn}{ix x:Int}(w:SeenI s ix x)(h:ix<2)(h1:x<(s.length:Int))(h2:bAt s x=((lget ([82,67]:bn) ix).toNat:Int)):SeenI s (ix+1) (x+1+dOf (bZ s (x+1))):=
 t6 w h (by rw[seenAt,bi ⟨h1,h2⟩])
theorem CV{s:bn}{ix x:Int}(w:SeenI s ix x)(h:ix<2)(h1:¬x<(s.length:Int)\/¬bAt s x=((lget ([82,67]:bn) ix).toNat:Int)):SeenI s (ix+1) x:=
 t6 w h (by rw[seenAt,bh λhh=>h1.elim (λa=>a hh.1) λa=>a hh.2])
theorem yR{s:bn}{ix x:Int}(w:SeenI s ix x)(h:¬ix<2):wL s=decide (x=(s.length:Int)):=by
 obtain⟨⟨rfl,rfl⟩|⟨rfl,rfl⟩|⟨rfl,rfl⟩⟩:=w
 .omega
 .omega
 .rfl
abbrev Qf(Γ:Glob)(s:bn):TG:=λl Zq vq hq=>(True)/\vq=bV (wL s)/\St Zq (l) hq
noncomputable abbrev Tc(Γ:Glob)(s:bn)(Z0:Hp)(l:List Asrt):Cx:=fnC Tryz.prog Γ Tryz.f202 1 [] (d4 Z0::l) (dz Z0 (Qf Γ s l))
theorem L9(s:bn)(hl:(s.length:Int)<=1000000)(bk0:Nat):∀(m:Nat) (Z:Hp) (x ix:Int) (hi:0<=x/\x<=(s.length:Int)/\0<=ix/\SeenI s ix x) (hm:(2-ix).toNat<m),den (Tc Γ s Z0 l) (.stop [0,1,0,1,1] ze1 [.asr 1]) ⟨2,1,0,0,1,2⟩ (va {i:=[x,ix],t:=[s],n:=[bk0],a:=[lsA 5 1 byE (.slice bk0 0 2 2) ([82,67]:bn),lsA 5 1 byE (.slice bk0 0 2 2) ([82,67]:bn)]}) Z:=by
 intro m
 induction m with
 |zero=>intros;omega
 |succ m ih=>
  intro Z x ix hi hm;refine cZ [0,1,0,1,1] ze1 [.asr 1] [] ⟨2,1,0,0,1,2⟩ (.fork (.lt (.v 1) (.z 2)) (.row (.idxA 56 (.slice 0 0 2 2) (vI 1)) [.asr 1] (.raw 0) ⟨2,1,0,1,1,2⟩<|.row (.load 5 (.raw 0)) [.asr 1] (.int .u8 (.v 2)) ⟨3,1,0,1,1,2⟩<|.fork (.lt (.v 0) (.len (.tv 0))) (.vc (.le (.z 0) (.v 0))<|.vc (.lt (.v 0) (.len (.tv 0)))<|.fork (.eq (.at (.tv 0) (.v 0)) (.v 2)) (.vc (xI (.add (.v 0) (.z 1)))<|.vc (.le (.z 0) (.add (.v 0) (.z 1)))<|.vc (.le (.add (.v 0) (.z 1)) (.len (.tv 0)))<|.call 218 [.txt (.tfr (.tv 0) (.add (.v 0) (.z 1)))] [] (vI 3) [] ⟨4,1,0,1,1,2⟩<|.vc (xI (.add (.add (.v 0) (.z 1)) (.v 3)))<|.vc (xI (.add (.v 1) (.z 1)))<|.stop [0,1,0,1,1] [(0,vT 0),(3,I (.add (.add (.v 0) (.z 1)) (.v 3))),(7,.slice 0 0 2 2),(8,I (.z 2)),(9,I (.add (.v 1) (.z 1)))] [.asr 1])<|.vc (xI (.add (.v 1) (.z 1)))<|.stop [0,1,0,1,1] ze0 [.asr 1])<|.vc (xI (.add (.v 1) (.z 1)))<|.stop [0,1,0,1,1] ze0 [.asr 1])<|.ret (.bool (.eq (.v 0) (.len (.tv 0)))) []) 100000 bm (λ_ h=>by cases h) ?_;refine bo (ix<2) rfl (λcd1=>?_) λcd1=>?_
  .refine drT {r:=[(elP (.slice bk0 0 2 2) (Int.toNat ix*1))]} (λl h hs=>ga (m:=l) (h:=h) (i:=ix) rfl rfl hs Ke2 Ke2) ?_;refine drT {i:=[(((lget ([82,67]:bn) ix)).toNat:Int)]} (λl h hs=>iO (m:=l) (h:=h) (i:=ix) rfl rfl hs Ke2 Ke2 rfl) ?_;refine bo (x<(s.length:Int)) rfl (λcd2=>?_) λcd2=>?_
   .refine bE (show 0<=x from Ke2) ?_;refine bE (show x<(s.length:Int)from Ke2) ?_;refine bo ((bAt s x)=(((lget ([82,67]:bn) ix)).toNat:Int)) rfl (λcd3=>?_) λcd3=>?_
    .refine bE (show I6 (x+1)from Ke2) ?_;refine bE (show 0<=(x+1)from Ke2) ?_;refine bE (show(x+1)<=(s.length:Int)from Ke2) ?_;refine cU {i:=[(dOf (bZ s (x+1)))]} (λl h hs=>GJ Γ (bZ s (x+1)) TM hs) ?_;refine bE (show I6 ((x+1)+(dOf (bZ s (x+1))))from Ke2) ?_;refine bE (show I6 (ix+1)from Ke2) ?_;exact bu (ih _ ((x+1)+(dOf (bZ s (x+1)))) (ix+1) Ke2 Ke2) rfl rfl
    .refine bE (show I6 (ix+1)from Ke2) ?_;exact bu (ih _ x (ix+1) Ke2 Ke2) rfl rfl
   .refine bE (show I6 (ix+1)from Ke2) ?_;exact bu (ih _ x (ix+1) Ke2 Ke2) rfl rfl
  .exact an λh hs=>⟨TH,by first|(rw[yR hi.2.2.2 bj];done)|(rw[yR hi.2.2.2 bj];rfl),hs⟩
theorem RD(s:bn)(hl:(s.length:Int)<=1000000)(hs:St Z0 (l) h):RC Γ Z0 202 [sV s] h (Qf Γ s l):=by
 refine bL Tryz.f202 Tryz.func202 [vT 0] [] ⟨0,1,0,0,0,0⟩ (va {t:=[s]}) (.new<|.eff (.conv 56 56 (.slice 0 0 2 2)) [.blk 0 [.int .u8 (.z 82),.int .u8 (.z 67)] 5] (.slice 0 0 2 2) [.blk 0 [.int .u8 (.z 82),.int .u8 (.z 67)] 5] ⟨0,1,0,0,1,0⟩<|.swap [.blk 0 [.int .u8 (.z 82),.int .u8 (.z 67)] 5] [.asr 0] ⟨0,1,0,0,1,1⟩<|.stop [0,1,0,1,1] [(0,vT 0),(3,Fd),(7,.slice 0 0 2 2),(8,I (.z 2)),(9,Fd)] [.asr 0]) hs ?_;refine bA λbk0=>?_;refine dJ (λ(_:Unit)=>{}) (λ_=>True) (λl h hs=>IA (P:=Tryz.prog) (Γ:=Γ) (t:=56) (b:=bk0) (off:=0) (n:=2) (c:=2) (m:=l) (h:=h) rfl rfl hs) λ_ _=>?_;refine dsU {a:=[lsA 5 1 byE (.slice bk0 0 2 2) ([82,67]:bn)]} (λl h hs=>iU (enc:=byE) (L:=([82,67]:bn)) (λ_ _=>⟨rfl,rfl⟩) rfl rfl (by decide) (hs) (m:=l) (h:=h)) ?_;exact bu (L9 Γ s hl bk0 _ _ 0 0 Ke2 (aq _)) rfl rfl
abbrev Q4(Γ:Glob)(s:bn):TG:=λl Zq vq hq=>(True)/\vq=bV (bK s)/\St Zq (l) hq
noncomputable abbrev S4(Γ:Glob)(s:bn)(Z0:Hp)(l:List Asrt):Cx:=fnC Tryz.prog Γ Tryz.f144 1 [] (d4 Z0::l) (dz Z0 (Q4 Γ s l))
theorem Mp(s:bn)(v0:SV):∀(m:Nat) (Z:Hp) (ix:Int) (hi:0<=ix/\(ix<=(s.length:Int)/\(s.length:Int)<=32)/\je s=true/\HdS kH s ix) (hm:((s.length:Int)-ix).toNat<m),den (S4 Γ s Z0 l) (.stop [0,1,0,1,1] ze4 [.asr 1]) ⟨2,1,1,1,0,2⟩ (va {i:=[(s.length:Int),ix],t:=[s],b:=[(j8 (bAt s 0))],r:=[v0],a:=[lsA 5 1 byE (oneS v0) s,lsA 5 1 byE (oneS v0) s]}) Z:=by
 intro m
 induction m with
 |zero=>intros;omega
 |succ m ih=>
  intro Z ix hi hm;refine cZ [0,1,0,1,1] ze4 [.asr 1] [] ⟨2,1,1,1,0,2⟩ (.fork (.lt (.v 1) (.v 0)) (.row (.idxA 56 (.raw 0) (vI 1)) [.asr 1] (.raw 1) ⟨2,1,1,2,0,2⟩<|.row (.load 5 (.raw 1)) [.asr 1] (.int .u8 (.v 2)) ⟨3,1,1,2,0,2⟩<|.call 199 [.int .u8 (.v 2)] [] (vB 1) [] ⟨3,1,2,2,0,2⟩<|.fork (.bv 1) (.vc (xI (.add (.v 1) (.z 1)))<|.stop [0,1,0,1,1] ze2 [.asr 1])<|.call 200 [.int .u8 (.v 2)] [] (vB 2) [] ⟨3,1,3,2,0,2⟩<|.fork (.bv 2) (.vc (xI (.add (.v 1) (.z 1)))<|.stop [0,1,0,1,1] ze2 [.asr 1])<|.fork (.eq (.v 2) (.z 46)) (.vc (xI (.add (.v 1) (.z 1)))<|.stop [0,1,0,1,1] ze2 [.asr 1])<|.ret (TA) [])<|.call 201 [vT 0] [] (.tup [vI 2,vI 3,vB 1]) [] ⟨4,1,2,1,0,2⟩<|.fork (.bv 1) (.fork (.le (.v 2) (.z 3)) (.fork (.le (.z 1) (.v 3)) (.fork (.le (.v 3) (.z 7)) (.vc (.le (.z 0) (.v 2))<|.vc (.lt (.v 2) (.len (.tv 0)))<|.ret (.bool (.eq (.at (.tv 0) (.v 2)) (.z 48))) [])<|.ret (TB) [])<|.ret (TB) [])<|.ret (TB) [])<|.ret (TB) []) 100000 bm (λ_ h=>by cases h) ?_;refine bo (ix<(s.length:Int)) rfl (λcd1=>?_) λcd1=>?_
  .refine drT {r:=[(elP (oneS v0) (Int.toNat ix*1))]} (λl h hs=>ga (m:=l) (h:=h) (i:=ix) rfl rfl hs Ke3 Ke3) ?_;refine drT {i:=[(((lget s ix)).toNat:Int)]} (λl h hs=>iO (m:=l) (h:=h) (i:=ix) rfl rfl hs Ke3 Ke3 rfl) ?_;refine cU {b:=[(j8 (((lget s ix)).toNat:Int))]} (λl h hs=>Gk Γ (((lget s ix)).toNat:Int) hs) ?_;refine bo ((j8 (((lget s ix)).toNat:Int))=true) rfl (λcd2=>?_) λcd2=>?_
   .refine bE (show I6 (ix+1)from Ke3) ?_;exact bu (ih _ (ix+1) Ke3 Ke3) rfl rfl
   .refine cU {b:=[(qz (((lget s ix)).toNat:Int))]} (λl h hs=>Nv Γ (((lget s ix)).toNat:Int) hs) ?_;refine bo ((qz (((lget s ix)).toNat:Int))=true) rfl (λcd3=>?_) λcd3=>?_
    .refine bE (show I6 (ix+1)from Ke3) ?_;exact bu (ih _ (ix+1) Ke3 Ke3) rfl rfl
    .refine bo ((((lget s ix)).toNat:Int)=46) rfl (λcd4=>?_) λcd4=>?_
     .refine bE (show I6 (ix+1)from Ke3) ?_;exact bu (ih _ (ix+1) Ke3 Ke3) rfl rfl
     .exact an λh hs=>⟨TH,by(show(bV false:SV)=_;clear hs;first|(simp[bK,je, *];done)|(simp[bK,je, *];omega)|(have w9:=dP hi.2.2.2 bj (by simp[kH, *]);have w8:=hi.2.2.1;simp[bK, *];done)|(have w9:=cf hi.2.2.2 bj;have w8:=hi.2.2.1;simp[bK, *];done)|(have w9:=cf hi.2.2.2 bj;have w8:=hi.2.2.1;simp[bK, *];omega)),hs⟩
  .refine cU {i:=[(spL s),(spD s)],b:=[(decide (spL s+spD s=(s.length:Int)))]} (λl h hs=>QB Γ s bj hs) ?_;refine bo ((decide (spL s+spD s=(s.length:Int)))=true) rfl (λcd2=>?_) λcd2=>?_
   .refine bo ((spL s)<=3) rfl (λcd3=>?_) λcd3=>?_
    .refine bo (1<=(spD s)) rfl (λcd4=>?_) λcd4=>?_
     .refine bo ((spD s)<=7) rfl (λcd5=>?_) λcd5=>?_
      .refine bE (show 0<=(spL s)from Ke3) ?_;refine bE (show(spL s)<(s.length:Int)from Ke3) ?_;exact an λh hs=>⟨TH,by(show(bV (decide ((bAt s (spL s))=48)):SV)=_;clear hs;first|(simp[bK,je, *];done)|(simp[bK,je, *];omega)|(have w9:=dP hi.2.2.2 bj (by simp[kH, *]);have w8:=hi.2.2.1;simp[bK, *];done)|(have w9:=cf hi.2.2.2 bj;have w8:=hi.2.2.1;simp[bK, *];done)|(have w9:=cf hi.2.2.2 bj;have w8:=hi.2.2.1;simp[bK, *];omega)),hs⟩
      .exact an λh hs=>⟨TH,by(show(bV true:SV)=_;clear hs;first|(simp[bK,je, *];done)|(simp[bK,je, *];omega)|(have w9:=dP hi.2.2.2 bj (by simp[kH, *]);have w8:=hi.2.2.1;simp[bK, *];done)|(have w9:=cf hi.2.2.2 bj;have w8:=hi.2.2.1;simp[bK, *];done)|(have w9:=cf hi.2.2.2 bj;have w8:=hi.2.2.1;simp[bK, *];omega)),hs⟩
     .exact an λh hs=>⟨TH,by(show(bV true:SV)=_;clear hs;first|(simp[bK,je, *];done)|(simp[bK,je, *];omega)|(have w9:=dP hi.2.2.2 bj (by simp[kH, *]);have w8:=hi.2.2.1;simp[bK, *];done)|(have w9:=cf hi.2.2.2 bj;have w8:=hi.2.2.1;simp[bK, *];done)|(have w9:=cf hi.2.2.2 bj;have w8:=hi.2.2.1;simp[bK, *];omega)),hs⟩
    .exact an λh hs=>⟨TH,by(show(bV true:SV)=_;clear hs;first|(simp[bK,je, *];done)|(simp[bK,je, *];omega)|(have w9:=dP hi.2.2.2 bj (by simp[kH, *]);have w8:=hi.2.2.1;simp[bK, *];done)|(have w9:=cf hi.2.2.2 bj;have w8:=hi.2.2.1;simp[bK, *];done)|(have w9:=cf hi.2.2.2 bj;have w8:=hi.2.2.1;simp[bK, *];omega)),hs⟩
   .exact an λh hs=>⟨TH,by(show(bV true:SV)=_;clear hs;first|(simp[bK,je, *];done)|(simp[bK,je, *];omega)|(have w9:=dP hi.2.2.2 bj (by simp[kH, *]);have w8:=hi.2.2.1;simp[bK, *];done)|(have w9:=cf hi.2.2.2 bj;have w8:=hi.2.2.1;simp[bK, *];done)|(have w9:=cf hi.2.2.2 bj;have w8:=hi.2.2.1;simp[bK, *];omega)),hs⟩
theorem Sl(s:bn)(hs:St Z0 (l) h):RC Γ Z0 144 [sV s] h (Q4 Γ s l):=by
 refine bL Tryz.f144 Tryz.func144 [vT 0] [] ⟨0,1,0,0,0,0⟩ (va {t:=[s]}) (.fork (.teq (.tv 0) (.tl [])) (.ret (TA) [])<|.fork (.lt (.z 32) (.len (.tv 0))) (.ret (TA) [])<|.vc (.le (.z 0) (.z 0))<|.vc (.lt (.z 0) (.len (.tv 0)))<|.call 199 [.int .u8 (.at (.tv 0) (.z 0))] [] (vB 0) [] ⟨0,1,1,0,0,0⟩<|.fork (.bv 0) (.eff (.conv 9 56 (vT 0)) [] (.raw 0) [.asr 0] ⟨0,1,1,1,0,1⟩<|.row (.len 56 (.raw 0)) [.asr 0] (vI 0) ⟨1,1,1,1,0,1⟩<|.stop [0,1,0,1,1] [(0,vT 0),(22,.raw 0),(23,vI 0),(24,Fd)] [.asr 0])<|.ret (TA) []) hs ?_;refine bo (s=([]:bn)) rfl (λcd1=>?_) λcd1=>?_
 .have zd1:=qN cd1;exact an λh hs=>⟨TH,by(show(bV false:SV)=_;clear hs;first|(simp[bK,je, *];done)|(simp[bK,je, *];omega)|(have w9:=dP hi.2.2.2 bj (by simp[kH, *]);have w8:=hi.2.2.1;simp[bK, *];done)|(have w9:=cf hi.2.2.2 bj;have w8:=hi.2.2.1;simp[bK, *];done)|(have w9:=cf hi.2.2.2 bj;have w8:=hi.2.2.1;simp[bK, *];omega)),hs⟩
 .have zd1:=qE cd1;refine bo (32<(s.length:Int)) rfl (λcd2=>?_) λcd2=>?_
  .exact an λh hs=>⟨TH,by(show(bV false:SV)=_;clear hs;first|(simp[bK,je, *];done)|(simp[bK,je, *];omega)|(have w9:=dP hi.2.2.2 bj (by simp[kH, *]);have w8:=hi.2.2.1;simp[bK, *];done)|(have w9:=cf hi.2.2.2 bj;have w8:=hi.2.2.1;simp[bK, *];done)|(have w9:=cf hi.2.2.2 bj;have w8:=hi.2.2.1;simp[bK, *];omega)),hs⟩
  .refine bE (show 0<=0 from Ke3) ?_;refine bE (show 0<(s.length:Int)from Ke3) ?_;refine cU {b:=[(j8 (bAt s 0))]} (λl h hs=>Gk Γ (bAt s 0) hs) ?_;refine bo ((j8 (bAt s 0))=true) rfl (λcd3=>?_) λcd3=>?_
   .refine dJ (λ(v0:SV)=>{r:=[v0],a:=[lsA 5 1 byE (oneS v0) s]}) (λ_=>True) (λl h hs=>zd (m:=l) (h:=h) (P:=Tryz.prog) (Γ:=Γ) (sT:=9) (dT:=56) (L:=s) rfl rfl rfl rfl hs) λv0 _=>?_;refine drT {i:=[(s.length:Int)]} (λl h hs=>eD (m:=l) (h:=h) rfl (λ_=>rfl) hs) ?_;exact bu (Mp Γ s v0 _ _ 0 Ke3 (aq _)) rfl rfl
   .exact an λh hs=>⟨TH,by(show(bV false:SV)=_;clear hs;first|(simp[bK,je, *];done)|(simp[bK,je, *];omega)|(have w9:=dP hi.2.2.2 bj (by simp[kH, *]);have w8:=hi.2.2.1;simp[bK, *];done)|(have w9:=cf hi.2.2.2 bj;have w8:=hi.2.2.1;simp[bK, *];done)|(have w9:=cf hi.2.2.2 bj;have w8:=hi.2.2.1;simp[bK, *];omega)),hs⟩
abbrev Qs(Γ:Glob)(s:bn):TG:=λl Zq vq hq=>(True)/\vq=bV (bG s)/\St Zq (l) hq
noncomputable abbrev OA(Γ:Glob)(s:bn)(Z0:Hp)(l:List Asrt):Cx:=fnC Tryz.prog Γ Tryz.f147 1 [] (d4 Z0::l) (dz Z0 (Qs Γ s l))
theorem Lg(s:bn)(v1:SV):∀(m:Nat) (Z:Hp) (ix:Int) (hi:0<=ix/\(ix<=(s.length:Int)/\(s.length:Int)<=32)/\gM s=true/\HdS jo s ix) (hm:((s.length:Int)-ix).toNat<m),den (OA Γ s Z0 l) (.stop [0,1,0,1,1] ze5 [.asr 1]) ⟨2,1,0,1,0,2⟩ (va {i:=[(s.length:Int),ix],t:=[s],r:=[v1],a:=[lsA 5 1 byE (oneS v1) s,lsA 5 1 byE (oneS v1) s]}) Z:=by
 intro m
 induction m with
 |zero=>intros;omega
 |succ m ih=>
  intro Z ix hi hm;refine cZ [0,1,0,1,1] ze5 [.asr 1] [] ⟨2,1,0,1,0,2⟩ (.fork (.lt (.v 1) (.v 0)) (.row (.idxA 56 (.raw 0) (vI 1)) [.asr 1] (.raw 1) ⟨2,1,0,2,0,2⟩<|.row (.load 5 (.raw 1)) [.asr 1] (.int .u8 (.v 2)) ⟨3,1,0,2,0,2⟩<|.call 199 [.int .u8 (.v 2)] [] (vB 0) [] ⟨3,1,1,2,0,2⟩<|.fork (.bv 0) (.vc (xI (.add (.v 1) (.z 1)))<|.stop [0,1,0,1,1] ze3 [.asr 1])<|.call 200 [.int .u8 (.v 2)] [] (vB 1) [] ⟨3,1,2,2,0,2⟩<|.fork (.bv 1) (.vc (xI (.add (.v 1) (.z 1)))<|.stop [0,1,0,1,1] ze3 [.asr 1])<|.fork (.eq (.v 2) (.z 95)) (.vc (xI (.add (.v 1) (.z 1)))<|.stop [0,1,0,1,1] ze3 [.asr 1])<|.fork (.eq (.v 2) (.z 46)) (.vc (xI (.add (.v 1) (.z 1)))<|.stop [0,1,0,1,1] ze3 [.asr 1])<|.ret (TA) [])<|.fork (.teq (.tv 0) (.tl [84,82,85,69])) (.ret (TA) [])<|.fork (.teq (.tv 0) (.tl [70,65,76,83,69])) (.ret (TA) [])<|.call 202 [vT 0] [] (vB 0) [] ⟨2,1,1,1,0,2⟩<|.fork (.bv 0) (.ret (TA) [])<|.call 201 [vT 0] [] (.tup [vI 2,vI 3,vB 1]) [] ⟨4,1,2,1,0,2⟩<|.fork (.bv 1) (.fork (.le (.z 1) (.v 2)) (.fork (.le (.v 2) (.z 3)) (.ret (.bool (.not (.le (.z 1) (.v 3)))) [])<|.ret (TB) [])<|.ret (TB) [])<|.ret (TB) []) 100000 bm (λ_ h=>by cases h) ?_;refine bo (ix<(s.length:Int)) rfl (λcd1=>?_) λcd1=>?_
  .refine drT {r:=[(elP (oneS v1) (Int.toNat ix*1))]} (λl h hs=>ga (m:=l) (h:=h) (i:=ix) rfl rfl hs Ke0 Ke0) ?_;refine drT {i:=[(((lget s ix)).toNat:Int)]} (λl h hs=>iO (m:=l) (h:=h) (i:=ix) rfl rfl hs Ke0 Ke0 rfl) ?_;refine cU {b:=[(j8 (((lget s ix)).toNat:Int))]} (λl h hs=>Gk Γ (((lget s ix)).toNat:Int) hs) ?_;refine bo ((j8 (((lget s ix)).toNat:Int))=true) rfl (λcd2=>?_) λcd2=>?_
   .refine bE (show I6 (ix+1)from Ke0) ?_;exact bu (ih _ (ix+1) Ke0 Ke0) rfl rfl
   .refine cU {b:=[(qz (((lget s ix)).toNat:Int))]} (λl h hs=>Nv Γ (((lget s ix)).toNat:Int) hs) ?_;refine bo ((qz (((lget s ix)).toNat:Int))=true) rfl (λcd3=>?_) λcd3=>?_
    .refine bE (show I6 (ix+1)from Ke0) ?_;exact bu (ih _ (ix+1) Ke0 Ke0) rfl rfl
    .refine bo ((((lget s ix)).toNat:Int)=95) rfl (λcd4=>?_) λcd4=>?_
     .refine bE (show I6 (ix+1)from Ke0) ?_;exact bu (ih _ (ix+1) Ke0 Ke0) rfl rfl
     .refine bo ((((lget s ix)).toNat:Int)=46) rfl (λcd5=>?_) λcd5=>?_
      .refine bE (show I6 (ix+1)from Ke0) ?_;exact bu (ih _ (ix+1) Ke0 Ke0) rfl rfl
      .exact an λh hs=>⟨TH,by(show(bV false:SV)=_;clear hs;first|(simp[bG,gM, *];done)|(simp[bG,gM, *];omega)|(have w9:=dP hi.2.2.2 bj (by simp[jo, *]);have w8:=hi.2.2.1;simp[bG, *];done)|(have w9:=cf hi.2.2.2 bj;have w8:=hi.2.2.1;simp[bG, *];done)|(have w9:=cf hi.2.2.2 bj;have w8:=hi.2.2.1;simp[bG, *];omega)),hs⟩
  .refine bo (s=([84,82,85,69]:bn)) rfl (λcd2=>?_) λcd2=>?_
   .exact an λh hs=>⟨TH,by(show(bV false:SV)=_;clear hs;first|(simp[bG,gM, *];done)|(simp[bG,gM, *];omega)|(have w9:=dP hi.2.2.2 bj (by simp[jo, *]);have w8:=hi.2.2.1;simp[bG, *];done)|(have w9:=cf hi.2.2.2 bj;have w8:=hi.2.2.1;simp[bG, *];done)|(have w9:=cf hi.2.2.2 bj;have w8:=hi.2.2.1;simp[bG, *];omega)),hs⟩
   .refine bo (s=([70,65,76,83,69]:bn)) rfl (λcd3=>?_) λcd3=>?_
    .exact an λh hs=>⟨TH,by(show(bV false:SV)=_;clear hs;first|(simp[bG,gM, *];done)|(simp[bG,gM, *];omega)|(have w9:=dP hi.2.2.2 bj (by simp[jo, *]);have w8:=hi.2.2.1;simp[bG, *];done)|(have w9:=cf hi.2.2.2 bj;have w8:=hi.2.2.1;simp[bG, *];done)|(have w9:=cf hi.2.2.2 bj;have w8:=hi.2.2.1;simp[bG, *];omega)),hs⟩
    .refine dcU {b:=[(wL s)]} (λ_ _=>RD Γ s Ke0) λZ=>?_;refine bo ((wL s)=true) rfl (λcd4=>?_) λcd4=>?_
     .exact an λh hs=>⟨TH,by(show(bV false:SV)=_;clear hs;first|(simp[bG,gM, *];done)|(simp[bG,gM, *];omega)|(have w9:=dP hi.2.2.2 bj (by simp[jo, *]);have w8:=hi.2.2.1;simp[bG, *];done)|(have w9:=cf hi.2.2.2 bj;have w8:=hi.2.2.1;simp[bG, *];done)|(have w9:=cf hi.2.2.2 bj;have w8:=hi.2.2.1;simp[bG, *];omega)),hs⟩
     .refine cU {i:=[(spL s),(spD s)],b:=[(decide (spL s+spD s=(s.length:Int)))]} (λl h hs=>QB Γ s bj hs) ?_;refine bo ((decide (spL s+spD s=(s.length:Int)))=true) rfl (λcd5=>?_) λcd5=>?_
      .refine bo (1<=(spL s)) rfl (λcd6=>?_) λcd6=>?_
       .refine bo ((spL s)<=3) rfl (λcd7=>?_) λcd7=>?_
        .exact an λh hs=>⟨TH,by(show(bV (!(decide (1<=(spD s)))):SV)=_;clear hs;first|(simp[bG,gM, *];done)|(simp[bG,gM, *];omega)|(have w9:=dP hi.2.2.2 bj (by simp[jo, *]);have w8:=hi.2.2.1;simp[bG, *];done)|(have w9:=cf hi.2.2.2 bj;have w8:=hi.2.2.1;simp[bG, *];done)|(have w9:=cf hi.2.2.2 bj;have w8:=hi.2.2.1;simp[bG, *];omega)),hs⟩
        .exact an λh hs=>⟨TH,by(show(bV true:SV)=_;clear hs;first|(simp[bG,gM, *];done)|(simp[bG,gM, *];omega)|(have w9:=dP hi.2.2.2 bj (by simp[jo, *]);have w8:=hi.2.2.1;simp[bG, *];done)|(have w9:=cf hi.2.2.2 bj;have w8:=hi.2.2.1;simp[bG, *];done)|(have w9:=cf hi.2.2.2 bj;have w8:=hi.2.2.1;simp[bG, *];omega)),hs⟩
       .exact an λh hs=>⟨TH,by(show(bV true:SV)=_;clear hs;first|(simp[bG,gM, *];done)|(simp[bG,gM, *];omega)|(have w9:=dP hi.2.2.2 bj (by simp[jo, *]);have w8:=hi.2.2.1;simp[bG, *];done)|(have w9:=cf hi.2.2.2 bj;have w8:=hi.2.2.1;simp[bG, *];done)|(have w9:=cf hi.2.2.2 bj;have w8:=hi.2.2.1;simp[bG, *];omega)),hs⟩
      .exact an λh hs=>⟨TH,by(show(bV true:SV)=_;clear hs;first|(simp[bG,gM, *];done)|(simp[bG,gM, *];omega)|(have w9:=dP hi.2.2.2 bj (by simp[jo, *]);have w8:=hi.2.2.1;simp[bG, *];done)|(have w9:=cf hi.2.2.2 bj;have w8:=hi.2.2.1;simp[bG, *];done)|(have w9:=cf hi.2.2.2 bj;have w8:=hi.2.2.1;simp[bG, *];omega)),hs⟩
theorem Ts(s:bn)(hs:St Z0 (l) h):RC Γ Z0 147 [sV s] h (Qs Γ s l):=by
 refine bL Tryz.f147 Tryz.func147 [vT 0] [] ⟨0,1,0,0,0,0⟩ (va {t:=[s]}) (.fork (.teq (.tv 0) (.tl [])) (.ret (TA) [])<|.fork (.lt (.z 32) (.len (.tv 0))) (.ret (TA) [])<|.vc (.le (.z 0) (.z 0))<|.vc (.lt (.z 0) (.len (.tv 0)))<|.call 199 [.int .u8 (.at (.tv 0) (.z 0))] [] (vB 0) [] ⟨0,1,1,0,0,0⟩<|.fork (.bv 0) (.stop [1,1] [(0,vT 0)] [])<|.vc (.le (.z 0) (.z 0))<|.vc (.lt (.z 0) (.len (.tv 0)))<|.fork (.eq (.at (.tv 0) (.z 0)) (.z 95)) (.stop [1,1] [(0,vT 0)] [])<|.ret (TA) []) hs ?_;have j0:∀(Z:Hp) (_:gM s=true/\(s.length:Int)<=32),den (OA Γ s Z0 l) (.stop [1,1] [(0,vT 0)] []) ⟨0,1,0,0,0,0⟩ (va {t:=[s]}) Z:=by
  intro Z j0i;refine yd [1,1] [(0,vT 0)] [] [] ⟨0,1,0,0,0,0⟩ (.eff (.conv 9 56 (vT 0)) [] (.raw 0) [.asr 0] ⟨0,1,0,1,0,1⟩<|.row (.len 56 (.raw 0)) [.asr 0] (vI 0) ⟨1,1,0,1,0,1⟩<|.stop [0,1,0,1,1] [(0,vT 0),(27,.raw 0),(28,vI 0),(29,Fd)] [.asr 0]) 100000 bm (λ_ h=>by cases h) ?_;refine dJ (λ(v1:SV)=>{r:=[v1],a:=[lsA 5 1 byE (oneS v1) s]}) (λ_=>True) (λl h hs=>zd (m:=l) (h:=h) (P:=Tryz.prog) (Γ:=Γ) (sT:=9) (dT:=56) (L:=s) rfl rfl rfl rfl hs) λv1 _=>?_;refine drT {i:=[(s.length:Int)]} (λl h hs=>eD (m:=l) (h:=h) rfl (λ_=>rfl) hs) ?_;exact bu (Lg Γ s v1 _ _ 0 Ke0 (aq _)) rfl rfl
 refine bo (s=([]:bn)) rfl (λcd1=>?_) λcd1=>?_
 .have zd1:=qN cd1;exact an λh hs=>⟨TH,by(show(bV false:SV)=_;clear hs;first|(simp[bG,gM, *];done)|(simp[bG,gM, *];omega)|(have w9:=dP hi.2.2.2 bj (by simp[jo, *]);have w8:=hi.2.2.1;simp[bG, *];done)|(have w9:=cf hi.2.2.2 bj;have w8:=hi.2.2.1;simp[bG, *];done)|(have w9:=cf hi.2.2.2 bj;have w8:=hi.2.2.1;simp[bG, *];omega)),hs⟩
 .have zd1:=qE cd1;refine bo (32<(s.length:Int)) rfl (λcd2=>?_) λcd2=>?_
  .exact an λh hs=>⟨TH,by(show(bV false:SV)=_;clear hs;first|(simp[bG,gM, *];done)|(simp[bG,gM, *];omega)|(have w9:=dP hi.2.2.2 bj (by simp[jo, *]);have w8:=hi.2.2.1;simp[bG, *];done)|(have w9:=cf hi.2.2.2 bj;have w8:=hi.2.2.1;simp[bG, *];done)|(have w9:=cf hi.2.2.2 bj;have w8:=hi.2.2.1;simp[bG, *];omega)),hs⟩
  .refine bE (show 0<=0 from Ke0) ?_;refine bE (show 0<(s.length:Int)from Ke0) ?_;refine cU {b:=[(j8 (bAt s 0))]} (λl h hs=>Gk Γ (bAt s 0) hs) ?_;refine bo ((j8 (bAt s 0))=true) rfl (λcd3=>?_) λcd3=>?_
   .exact bu (j0 _ Ke0) rfl rfl
   .refine bE (show 0<=0 from Ke0) ?_;refine bE (show 0<(s.length:Int)from Ke0) ?_;refine bo ((bAt s 0)=95) rfl (λcd4=>?_) λcd4=>?_
    .exact bu (j0 _ Ke0) rfl rfl
    .exact an λh hs=>⟨TH,by(show(bV false:SV)=_;clear hs;first|(simp[bG,gM, *];done)|(simp[bG,gM, *];omega)|(have w9:=dP hi.2.2.2 bj (by simp[jo, *]);have w8:=hi.2.2.1;simp[bG, *];done)|(have w9:=cf hi.2.2.2 bj;have w8:=hi.2.2.1;simp[bG, *];done)|(have w9:=cf hi.2.2.2 bj;have w8:=hi.2.2.1;simp[bG, *];omega)),hs⟩
def dl(x y:ND)(n m:Int):Bool:=decide (x.k=y.k)&&(decide (x.v0=y.v0/\x.v1=y.v1/\x.v2=y.v2/\x.v3=y.v3/\x.v4=y.v4/\x.v5=y.v5)&&(decide (x.name=y.name)&&(decide (x.a0=y.a0/\x.a1=y.a1/\x.a2=y.a2/\x.a3=y.a3/\x.a4=y.a4/\x.a5=y.a5/\x.b0=y.b0/\x.b1=y.b1/\x.b2=y.b2/\x.b3=y.b3/\x.b4=y.b4/\x.b5=y.b5)&&(decide (x.rows=y.rows)&&decide (n=m)))))
abbrev zf0:List MI:=[.asr 2,.blk 0 (nX 0 0 0 (.raw 1)) 85,.asr 1]
abbrev zf1:List XV:=(nX 14 2 5 (.raw 2))
abbrev zf2:List XV:=(nX 0 0 0 (.raw 1))
abbrev SK(Γ:Glob)(p:SV)(B:Nat)(y:ND)(K:SV)(t:Tr)(ks:List Tr):TG:=λl Zq vq hq=>(True)/\vq=bV (dl t.nd y (t.kids.length:Int) (ks.length:Int))/\St Zq (bB Γ (oneS p) t::own B (.cells (ndL y (oneS K)) 85)::br Γ (oneS K) ks::l) hq
theorem RZ(p:SV)(B:Nat)(y:ND)(K:SV)(t:Tr)(ks:List Tr)(hs:St Z0 (bB Γ (oneS p) t::own B (.cells (ndL y (oneS K)) 85)::br Γ (oneS K) ks::l) h):RC Γ Z0 133 [(oneS p),.ptr B 0] h (SK Γ p B y K t ks l):=by
 refine bL Tryz.f133 Tryz.func133 [.raw 0,.ptr 0 0] [.asr 0,.blk 0 zf2 85,.asr 1] ⟨14,2,5,2,1,2⟩ (va {i:=[y.k,y.v0,y.v1,y.v2,y.v5,y.a0,y.a1,y.a2,y.a3,y.b0,y.b1,y.b2,y.b3,y.rows],t:=[y.v3,y.name],b:=[y.v4,y.a4,y.a5,y.b4,y.b5],r:=[p,K],n:=[B],a:=[bB Γ (oneS p) t,br Γ (oneS K) ks]}) (.swap [.asr 0] [.asr 2] ⟨14,2,5,2,1,3⟩<|.win 0 zf1 ⟨28,4,10,3,1,3⟩<|.swap [] [.asr 3] ⟨28,4,10,3,1,4⟩<|.fork (.eq (.v 14) (.v 0)) (.fork (.and (.eq (.v 15) (.v 1)) (.and (.and (.eq (.v 16) (.v 2)) (.eq (.v 17) (.v 3))) (.and (.teq (.tv 2) (.tv 0)) (.and (.beq (.bv 5) (.bv 0)) (.eq (.v 18) (.v 4)))))) (.fork (.teq (.tv 3) (.tv 1)) (.fork (.and (.and (.and (.eq (.v 19) (.v 5)) (.eq (.v 20) (.v 6))) (.and (.and (.eq (.v 21) (.v 7)) (.eq (.v 22) (.v 8))) (.and (.beq (.bv 6) (.bv 1)) (.beq (.bv 7) (.bv 2))))) (.and (.and (.eq (.v 23) (.v 9)) (.eq (.v 24) (.v 10))) (.and (.and (.eq (.v 25) (.v 11)) (.eq (.v 26) (.v 12))) (.and (.beq (.bv 8) (.bv 3)) (.beq (.bv 9) (.bv 4)))))) (.fork (.eq (.v 27) (.v 13)) (.row (.len 83 (.raw 2)) [.asr 3] (vI 28) ⟨29,4,10,3,1,4⟩<|.row (.len 83 (.raw 1)) [.asr 1] (vI 29) ⟨30,4,10,3,1,4⟩<|.ret (.bool (.eq (.v 28) (.v 29))) zf0)<|.ret (TA) zf0)<|.ret (TA) zf0)<|.ret (TA) zf0)<|.ret (TA) zf0)<|.ret (TA) zf0) hs ?_;refine bQ (α:=Unit) (λ(_:Unit)=>{a:=[bB Γ (oneS p) t]}) (λ(_:Unit)=>TreeAt Γ Z0 (oneS p) t) (λl h hs=>⟨(),cN (hs) (m:=l) (h:=h)⟩) λ_ qs1=>?_;obtain⟨L0,wu0,ku0⟩:=dc qs1;refine fk (TD t.nd L0) wu0 ?_;refine dsU {a:=[br Γ (oneS L0) t.kids]} (λl h hs=>co ku0 (hs) (m:=l) (h:=h)) ?_;refine bo (t.nd.k=y.k) rfl (λcd1=>?_) λcd1=>?_
 .refine bo ((t.nd.v0=y.v0)/\(((t.nd.v1=y.v1)/\(t.nd.v2=y.v2))/\((t.nd.v3=y.v3)/\((t.nd.v4=y.v4)/\(t.nd.v5=y.v5))))) rfl (λcd2=>?_) λcd2=>?_
  .refine bo (t.nd.name=y.name) rfl (λcd3=>?_) λcd3=>?_
   .refine bo ((((t.nd.a0=y.a0)/\(t.nd.a1=y.a1))/\(((t.nd.a2=y.a2)/\(t.nd.a3=y.a3))/\((t.nd.a4=y.a4)/\(t.nd.a5=y.a5))))/\(((t.nd.b0=y.b0)/\(t.nd.b1=y.b1))/\(((t.nd.b2=y.b2)/\(t.nd.b3=y.b3))/\((t.nd.b4=y.b4)/\(t.nd.b5=y.b5))))) rfl (λcd4=>?_) λcd4=>?_
    .refine bo (t.nd.rows=y.rows) rfl (λcd5=>?_) λcd5=>?_
     .refine dD {i:=[(t.kids.length:Int)]} _ (λl h hs=>dN (m:=l) (h:=h) hs) λkl3=>?_;refine dD {i:=[(ks.length:Int)]} _ (λl h hs=>dN (m:=l) (h:=h) hs) λkl4=>?_;exact an λh hs=>⟨TH,by first|rfl|(show(bV (decide ((t.kids.length:Int)=(ks.length:Int))):SV)=_;clear hs;simp[dl, *];done)|(show(bV (decide ((t.kids.length:Int)=(ks.length:Int))):SV)=_;clear hs;simp_all[dl];done),hs⟩
     .exact an λh hs=>⟨TH,TN,hs⟩
    .exact an λh hs=>⟨TH,TN,hs⟩
   .exact an λh hs=>⟨TH,TN,hs⟩
  .exact an λh hs=>⟨TH,TN,hs⟩
 .exact an λh hs=>⟨TH,TN,hs⟩
def nd0:ND:=⟨0,0,0,0,[],false,0,[],0,0,0,0,false,false,0,0,0,0,false,false,0⟩
def dY(x y:ND)(n m:Int):Bool:=dl x {y with k:=x.k} n m
abbrev S8(Γ:Glob)(p:SV)(y:ND)(K:SV)(t:Tr)(ks:List Tr):TG:=λl Zq vq hq=>(True)/\vq=bV (dY t.nd y (t.kids.length:Int) (ks.length:Int))/\St Zq (bB Γ (oneS p) t::br Γ (oneS K) ks::l) hq
theorem qY(p:SV)(y:ND)(K:SV)(t:Tr)(ks:List Tr)(hs:St Z0 (bB Γ (oneS p) t::br Γ (oneS K) ks::l) h):RC Γ Z0 142 [(oneS p),.agg (ndL y (oneS K))] h (S8 Γ p y K t ks l):=by
 refine bL Tryz.f142 Tryz.func142 [.raw 0,.agg zf2] [.asr 0,.asr 1] ⟨14,2,5,2,0,2⟩ (va {i:=[y.k,y.v0,y.v1,y.v2,y.v5,y.a0,y.a1,y.a2,y.a3,y.b0,y.b1,y.b2,y.b3,y.rows],t:=[y.v3,y.name],b:=[y.v4,y.a4,y.a5,y.b4,y.b5],r:=[p,K],a:=[bB Γ (oneS p) t,br Γ (oneS K) ks]}) (.new<|.swap [.asr 0] [.asr 2] ⟨14,2,5,2,1,3⟩<|.win 0 zf1 ⟨28,4,10,3,1,3⟩<|.swap [] [.asr 3] ⟨28,4,10,3,1,4⟩<|.call 133 [.raw 0,.ptr 0 0] [.asr 2,.blk 0 [vI 14,vI 1,vI 2,vI 3,vT 0,vB 0,vI 4,vT 1,vI 5,vI 6,vI 7,vI 8,vB 1,vB 2,vI 9,vI 10,vI 11,vI 12,vB 3,vB 4,vI 13,.raw 1] 85,.asr 1] (vB 10) [.asr 4,.blk 0 (nX 28 4 11 (.raw 3)) 85,.asr 5] ⟨42,6,16,4,1,6⟩<|.ret (vB 10) [.asr 4,.asr 5]) hs ?_;refine bA λbk0=>?_;refine bQ (α:=Unit) (λ(_:Unit)=>{a:=[bB Γ (oneS p) t]}) (λ(_:Unit)=>TreeAt Γ Z0 (oneS p) t) (λl h hs=>⟨(),cN (hs) (m:=l) (h:=h)⟩) λ_ qs1=>?_;obtain⟨L0,wu0,ku0⟩:=dc qs1;refine fk (TD t.nd L0) wu0 ?_;refine dsU {a:=[br Γ (oneS L0) t.kids]} (λl h hs=>co ku0 (hs) (m:=l) (h:=h)) ?_;refine dcU {i:=[((ND.mk t.nd.k y.v0 y.v1 y.v2 y.v3 y.v4 y.v5 y.name y.a0 y.a1 y.a2 y.a3 y.a4 y.a5 y.b0 y.b1 y.b2 y.b3 y.b4 y.b5 y.rows).k),((ND.mk t.nd.k y.v0 y.v1 y.v2 y.v3 y.v4 y.v5 y.name y.a0 y.a1 y.a2 y.a3 y.a4 y.a5 y.b0 y.b1 y.b2 y.b3 y.b4 y.b5 y.rows).v0),((ND.mk t.nd.k y.v0 y.v1 y.v2 y.v3 y.v4 y.v5 y.name y.a0 y.a1 y.a2 y.a3 y.a4 y.a5 y.b0 y.b1 y.b2 y.b3 y.b4 y.b5 y.rows).v1),((ND.mk t.nd.k y.v0 y.v1 y.v2 y.v3 y.v4 y.v5 y.name y.a0 y.a1 y.a2 y.a3 y.a4 y.a5 y.b0 y.b1 y.b2 y.b3 y.b4 y.b5 y.rows).v2),((ND.mk t.nd.k y.v0 y.v1 y.v2 y.v3 y.v4 y.v5 y.name y.a0 y.a1 y.a2 y.a3 y.a4 y.a5 y.b0 y.b1 y.b2 y.b3 y.b4 y.b5 y.rows).v5),((ND.mk t.nd.k y.v0 y.v1 y.v2 y.v3 y.v4 y.v5 y.name y.a0 y.a1 y.a2 y.a3 y.a4 y.a5 y.b0 y.b1 y.b2 y.b3 y.b4 y.b5 y.rows).a0),((ND.mk t.nd.k y.v0 y.v1 y.v2 y.v3 y.v4 y.v5 y.name y.a0 y.a1 y.a2 y.a3 y.a4 y.a5 y.b0 y.b1 y.b2 y.b3 y.b4 y.b5 y.rows).a1),((ND.mk t.nd.k y.v0 y.v1 y.v2 y.v3 y.v4 y.v5 y.name y.a0 y.a1 y.a2 y.a3 y.a4 y.a5 y.b0 y.b1 y.b2 y.b3 y.b4 y.b5 y.rows).a2),((ND.mk t.nd.k y.v0 y.v1 y.v2 y.v3 y.v4 y.v5 y.name y.a0 y.a1 y.a2 y.a3 y.a4 y.a5 y.b0 y.b1 y.b2 y.b3 y.b4 y.b5 y.rows).a3),((ND.mk t.nd.k y.v0 y.v1 y.v2 y.v3 y.v4 y.v5 y.name y.a0 y.a1 y.a2 y.a3 y.a4 y.a5 y.b0 y.b1 y.b2 y.b3 y.b4 y.b5 y.rows).b0),((ND.mk t.nd.k y.v0 y.v1 y.v2 y.v3 y.v4 y.v5 y.name y.a0 y.a1 y.a2 y.a3 y.a4 y.a5 y.b0 y.b1 y.b2 y.b3 y.b4 y.b5 y.rows).b1),((ND.mk t.nd.k y.v0 y.v1 y.v2 y.v3 y.v4 y.v5 y.name y.a0 y.a1 y.a2 y.a3 y.a4 y.a5 y.b0 y.b1 y.b2 y.b3 y.b4 y.b5 y.rows).b2),((ND.mk t.nd.k y.v0 y.v1 y.v2 y.v3 y.v4 y.v5 y.name y.a0 y.a1 y.a2 y.a3 y.a4 y.a5 y.b0 y.b1 y.b2 y.b3 y.b4 y.b5 y.rows).b3),((ND.mk t.nd.k y.v0 y.v1 y.v2 y.v3 y.v4 y.v5 y.name y.a0 y.a1 y.a2 y.a3 y.a4 y.a5 y.b0 y.b1 y.b2 y.b3 y.b4 y.b5 y.rows).rows)],t:=[((ND.mk t.nd.k y.v0 y.v1 y.v2 y.v3 y.v4 y.v5 y.name y.a0 y.a1 y.a2 y.a3 y.a4 y.a5 y.b0 y.b1 y.b2 y.b3 y.b4 y.b5 y.rows).v3),((ND.mk t.nd.k y.v0 y.v1 y.v2 y.v3 y.v4 y.v5 y.name y.a0 y.a1 y.a2 y.a3 y.a4 y.a5 y.b0 y.b1 y.b2 y.b3 y.b4 y.b5 y.rows).name)],b:=[(dl t.nd (ND.mk t.nd.k y.v0 y.v1 y.v2 y.v3 y.v4 y.v5 y.name y.a0 y.a1 y.a2 y.a3 y.a4 y.a5 y.b0 y.b1 y.b2 y.b3 y.b4 y.b5 y.rows) (t.kids.length:Int) (ks.length:Int)),((ND.mk t.nd.k y.v0 y.v1 y.v2 y.v3 y.v4 y.v5 y.name y.a0 y.a1 y.a2 y.a3 y.a4 y.a5 y.b0 y.b1 y.b2 y.b3 y.b4 y.b5 y.rows).v4),((ND.mk t.nd.k y.v0 y.v1 y.v2 y.v3 y.v4 y.v5 y.name y.a0 y.a1 y.a2 y.a3 y.a4 y.a5 y.b0 y.b1 y.b2 y.b3 y.b4 y.b5 y.rows).a4),((ND.mk t.nd.k y.v0 y.v1 y.v2 y.v3 y.v4 y.v5 y.name y.a0 y.a1 y.a2 y.a3 y.a4 y.a5 y.b0 y.b1 y.b2 y.b3 y.b4 y.b5 y.rows).a5),((ND.mk t.nd.k y.v0 y.v1 y.v2 y.v3 y.v4 y.v5 y.name y.a0 y.a1 y.a2 y.a3 y.a4 y.a5 y.b0 y.b1 y.b2 y.b3 y.b4 y.b5 y.rows).b4),((ND.mk t.nd.k y.v0 y.v1 y.v2 y.v3 y.v4 y.v5 y.name y.a0 y.a1 y.a2 y.a3 y.a4 y.a5 y.b0 y.b1 y.b2 y.b3 y.b4 y.b5 y.rows).b5)],r:=[K],a:=[bB Γ (oneS p) t,br Γ (oneS K) ks]} (λ_ _=>RZ Γ p bk0 (ND.mk t.nd.k y.v0 y.v1 y.v2 y.v3 y.v4 y.v5 y.name y.a0 y.a1 y.a2 y.a3 y.a4 y.a5 y.b0 y.b1 y.b2 y.b3 y.b4 y.b5 y.rows) K t ks) λZ=>?_;exact an λh hs=>⟨TH,by first|rfl|(show(bV (dl t.nd (ND.mk t.nd.k y.v0 y.v1 y.v2 y.v3 y.v4 y.v5 y.name y.a0 y.a1 y.a2 y.a3 y.a4 y.a5 y.b0 y.b1 y.b2 y.b3 y.b4 y.b5 y.rows) (t.kids.length:Int) (ks.length:Int)):SV)=_;rfl)|(show(bV (dl t.nd (ND.mk t.nd.k y.v0 y.v1 y.v2 y.v3 y.v4 y.v5 y.name y.a0 y.a1 y.a2 y.a3 y.a4 y.a5 y.b0 y.b1 y.b2 y.b3 y.b4 y.b5 y.rows) (t.kids.length:Int) (ks.length:Int)):SV)=_;clear hs;simp_all[dY];done),hs⟩
abbrev zg0:List XV:=[.raw 0,.agg [Fd,Fd,Fd,Fd,.txt (.tl []),TA,Fd,.txt (.tl []),vI 6,vI 7,vI 8,vI 9,vB 1,vB 2,Fd,Fd,Fd,Fd,TA,TA,Fd,.lit mt]]
abbrev zg1:List XV:=[.raw 0,.agg [Fd,Fd,Fd,Fd,.txt (.tl []),TA,Fd,vT 1,Fd,Fd,Fd,Fd,TA,TA,Fd,Fd,Fd,Fd,TA,TA,Fd,.raw 1]]
abbrev zg2:List (Nat×XV):=[(0,.raw 0),(5,vB 6),(250,vI 15),(251,vI 16)]
abbrev zg3:List (Nat×XV):=[(0,.raw 0),(5,TA)]
abbrev zg4:List (Nat×XV):=[(0,.raw 0),(5,vB 6)]
abbrev zg5:List (Nat×XV):=[(0,.raw 0),(5,vB 5)]
theorem Kg0{P:Prop}(h:P:=by first|omega|(have w1:=Bu hk;omega)|(have w1:=Bu hk;first|omega|(and_intros<;>intros<;>and_intros<;>first|omega|assumption|exact CI (by simp[nodeB,nd0, *])|exact Am hi.2.2 (by assumption) bj bj (by simp[*])|exact CI (by simp_all[nodeB,nd0])|exact V1))):P:=h
def nodeB(x:ND)(ks:List Tr)(above:Int):Bool:=
 if x.k=0 then fy x.v0 x.v1 x.v2 x.v3 x.v4 x.v5 (decide (above=8))&&dY x {nd0 with v0:=x.v0,v1:=x.v1,v2:=x.v2,v3:=x.v3,v4:=x.v4,v5:=x.v5} (ks.length:Int) 0
 else if x.k=1\/x.k=3 then !decide (x.a0=0/\x.a1=0)&&(!decide (x.a2=0/\x.a3=0)&&dY x {nd0 with a0:=x.a0,a1:=x.a1,a2:=x.a2,a3:=x.a3,a4:=x.a4,a5:=x.a5} (ks.length:Int) 0)
 else if x.k=2 then cY x.a0 x.a1 x.a2 x.a3 x.a4 x.a5 x.b0 x.b1 x.b2 x.b3 x.b4 x.b5&&dY x {nd0 with a0:=x.a0,a1:=x.a1,a2:=x.a2,a3:=x.a3,a4:=x.a4,a5:=x.a5,b0:=x.b0,b1:=x.b1,b2:=x.b2,b3:=x.b3,b4:=x.b4,b5:=x.b5} (ks.length:Int) 0
 else if x.k=4 then bK x.name&&(decide ((ks.length:Int)<=32)&&(!(decide ((ks.length:Int)=1)&&decide ((lget ks 0).nd.k=9))&&dY x {nd0 with name:=x.name} (ks.length:Int) (ks.length:Int)))
 else if x.k=5 then gz x.name&&(decide ((ks.length:Int)=1)&&dY x {nd0 with name:=x.name} (ks.length:Int) (ks.length:Int))
 else if x.k=6 then c7 x.name&&(decide ((ks.length:Int)=2)&&dY x {nd0 with name:=x.name} (ks.length:Int) (ks.length:Int))
 else if x.k=7 then bG x.name&&dY x {nd0 with name:=x.name} (ks.length:Int) 0
 else if x.k=8 then decide (1<=x.rows)&&(decide (1<=(ks.length:Int))&&(decide (Int.tmod (ks.length:Int) x.rows=0)&&dY x {nd0 with rows:=x.rows} (ks.length:Int) (ks.length:Int)))
 else if x.k=9 then decide (above=4)&&dY x nd0 (ks.length:Int) 0
 else false
mutual
def eY:Tr->Int->Bool
 | .mk x ks,above=>nodeB x ks above&&rightL x.k ks
def rightL:Int->List Tr->Bool
 |_,[]=>true
 |k,t::l=>(decide (k≠8)||decide (t.nd.k=0))&&eY t k&&rightL k l
end
theorem o6(k:Int)(t:Tr):∀l:List Tr,rightL k (l++[t])=(rightL k l&&((decide (k≠8)||decide (t.nd.k=0))&&eY t k))
 |[]=>by simp[rightL]
 |a::l=>by rw[List.cons_append,rightL,rightL,o6 k t l];simp only[Bool.and_assoc]
structure RightI(t:Tr)(above ix:Int)(ok:Bool):Prop where
 a:ok=(nodeB t.nd t.kids above&&rightL t.nd.k (t.kids.take ix.toNat))
theorem tL(t:Tr)(above:Int):eY t above=(nodeB t.nd t.kids above&&rightL t.nd.k t.kids):=by cases t;rw[eY];rfl
theorem CI{t:Tr}{above:Int}{ok:Bool}(h:ok=nodeB t.nd t.kids above):RightI t above 0 ok:=⟨by rw[h];simp[rightL]⟩
theorem Am{t:Tr}{above ix:Int}{ok v:Bool}(w:RightI t above ix ok)(h:ok=true)(h0:0<=ix)(h1:ix<(t.kids.length:Int))(hv:v=((decide (t.nd.k≠8)||decide ((lget t.kids ix).nd.k=0))&&eY (lget t.kids ix) t.nd.k)):RightI t above (ix+1) v:=by
 have e:=eh (L:=t.kids) (i:=ix) h0 h1;have hw:=w.a;rw[h]at hw;exact⟨by rw[e,o6,<-Bool.and_assoc,<-hw,aI,hv]⟩
theorem pi(k:Int):∀(l:List Tr) (n:Nat),rightL k l=true->rightL k (l.take n)=true
 |[],n,h=>by simpa using h
 |t::l,0,_=>by simp[rightL]
 |t::l,n+1,h=>by
  rw[rightL,a8]at h;rw[List.take_succ_cons,rightL,h.1,aI];exact pi k l n h.2
theorem yW{t:Tr}{above ix:Int}{ok:Bool}(w:RightI t above ix ok)(h:ok=false):eY t above=false:=by
 rw[tL];cases h1:nodeB t.nd t.kids above with
 |false=>rfl
 |true=>
  cases h2:rightL t.nd.k t.kids with
  |false=>rfl
  |true=>
   have:=w.a;rw[h,h1,pi _ _ _ h2]at this;cases this
theorem tn{t:Tr}{above ix:Int}{ok:Bool}(w:RightI t above ix ok)(h1:¬ix<(t.kids.length:Int)):eY t above=ok:=by
 rw[tL,w.a,List.take_of_length_le bj]
theorem Bu{t:Tr}(h:(sizeL t.kids:Int)<=1900000):(t.kids.length:Int)<=1900000:=by
 have:=gt t.kids;omega
theorem Kb{P:Program}{t:TypeId}{a b:Int}(hb:b≠0)(xo yo:Operand):one (binQ P .rem t xo yo (iV a) (iV b))=some (iV (Int.tmod a b),[]):=by
 rw[show iV a=.lit (.int .i64 a)from rfl,show iV b=.lit (.int .i64 b)from rfl,dH (v:=.int .i64 (Int.tmod a b)) jZ (Bi (by
  rw[bh (λhh=>hh rfl)];show pureRun P (Op.intDiv .rem .i64 a b)=some (.int .i64 (a.tmod b));simp only[Op.intDiv,bh hb];rfl) ⟨λe=>(by cases e),λe=>(by cases e)⟩)]
 rfl
abbrev Mg(Γ:Glob)(p:SV)(above:Int)(t:Tr):TG:=λl Zq vq hq=>(True)/\vq=bV (eY t above)/\St Zq (bB Γ (oneS p) t::l) hq
def Nt(T:Int):Prop:=∀(Γ:Glob) [Mute Γ] (p:SV) (above:Int) (t:Tr) (hk:(sizeL t.kids:Int)<=1900000),((sizeL t.kids:Int))<T->∀{Z0 h:Hp} {l:List Asrt},St Z0 (bB Γ (oneS p) t::l) h->Runs Tryz.prog Γ (.call 94 [(oneS p),iV above] h) λoq=>∃Z',Sub Z0 Z'/\Mg Γ p above t l Z' oq.v oq.hp
abbrev PB(Γ:Glob)(p:SV)(above:Int)(t:Tr)(T:Int):TG:=λl Zq vq hq=>(True)/\vq=bV (eY t above)/\St Zq (bB Γ (oneS p) t::l) hq
noncomputable abbrev O3(Γ:Glob)(p:SV)(above:Int)(t:Tr)(T:Int)(Z0:Hp)(l:List Asrt):Cx:=fnC Tryz.prog Γ Tryz.f94 2 [] (d4 Z0::l) (dz Z0 (PB Γ p above t T l))
theorem Mn(p:SV)(above:Int)(t:Tr)(T:Int)(hk:(sizeL t.kids:Int)<=1900000)(hT:((sizeL t.kids:Int))<=T)(IHtreeright_runs:Nt T)(okj:Bool)(L1:SV):∀(m:Nat) (Z:Hp) (ok:Bool) (ix:Int) (hi:0<=ix/\ix<=(t.kids.length:Int)/\RightI t above ix ok) (hm:((t.kids.length:Int)-ix).toNat<m),den (O3 Γ p above t T Z0 l) (.stop [0,1,0,1,1,1] zg2 [.asr 4]) ⟨17,2,7,2,0,5⟩ (va {i:=[above,t.nd.k,t.nd.v0,t.nd.v1,t.nd.v2,t.nd.v5,t.nd.a0,t.nd.a1,t.nd.a2,t.nd.a3,t.nd.b0,t.nd.b1,t.nd.b2,t.nd.b3,t.nd.rows,(t.kids.length:Int),ix],t:=[t.nd.v3,t.nd.name],b:=[okj,t.nd.v4,t.nd.a4,t.nd.a5,t.nd.b4,t.nd.b5,ok],r:=[p,L1],a:=[bB Γ (oneS p) t,bB Γ (oneS p) t,bB Γ (oneS p) t,br Γ (oneS L1) t.kids,bB Γ (oneS p) t]}) Z:=by
 intro m
 induction m with
 |zero=>intros;omega
 |succ m ih=>
  intro Z ok ix hi hm;refine cZ [0,1,0,1,1,1] zg2 [.asr 4] [] ⟨17,2,7,2,0,5⟩ (.fork (.lt (.v 16) (.v 15)) (.fork (.bv 6) (.swap [.asr 4] [.asr 5] ⟨17,2,7,2,0,6⟩<|.win 0 (nX 17 2 7 (.raw 2)) ⟨31,4,12,3,0,6⟩<|.swap [] [.asr 6] ⟨31,4,12,3,0,7⟩<|.fork (.eq (.v 17) (.z 8)) (.row (.idxA 83 (.raw 2) (vI 16)) [.asr 6] (.raw 3) ⟨31,4,12,4,0,7⟩<|.swap [] [.asr 7] ⟨31,4,12,4,0,8⟩<|.swap [.asr 7] [.asr 8] ⟨31,4,12,4,0,9⟩<|.win 3 (nX 31 4 12 (.raw 4)) ⟨45,6,17,5,0,9⟩<|.swap [] [.asr 9] ⟨45,6,17,5,0,10⟩<|.fork (.eq (.v 31) (.z 0)) (.row (.idxA 83 (.raw 2) (vI 16)) [.asr 6] (.raw 5) ⟨45,6,17,6,0,10⟩<|.swap [] [.asr 10] ⟨45,6,17,6,0,11⟩<|.call 94 [.raw 5,vI 17] [.asr 10] (vB 17) [.asr 11] ⟨45,6,18,6,0,12⟩<|.vc (xI (.add (.v 16) (.z 1)))<|.stop [0,1,0,1,1,1] [(0,.raw 0),(5,vB 17),(250,vI 15),(251,I (.add (.v 16) (.z 1)))] [.asr 5])<|.vc (xI (.add (.v 16) (.z 1)))<|.stop [0,1,0,1,1,1] [(0,.raw 0),(5,TA),(250,vI 15),(251,I (.add (.v 16) (.z 1)))] [.asr 5])<|.row (.idxA 83 (.raw 2) (vI 16)) [.asr 6] (.raw 3) ⟨31,4,12,4,0,7⟩<|.swap [] [.asr 7] ⟨31,4,12,4,0,8⟩<|.call 94 [.raw 3,vI 17] [.asr 7] (vB 12) [.asr 8] ⟨31,4,13,4,0,9⟩<|.vc (xI (.add (.v 16) (.z 1)))<|.stop [0,1,0,1,1,1] [(0,.raw 0),(5,vB 12),(250,vI 15),(251,I (.add (.v 16) (.z 1)))] [.asr 5])<|.ret (TA) [.asr 4])<|.ret (vB 6) [.asr 4]) 100000 bm (λ_ h=>by cases h) ?_;refine bo (ix<(t.kids.length:Int)) rfl (λcd1=>?_) λcd1=>?_
  .refine bo (ok=true) rfl (λcd2=>?_) λcd2=>?_
   .refine bQ (α:=Unit) (λ(_:Unit)=>{a:=[bB Γ (oneS p) t]}) (λ(_:Unit)=>TreeAt Γ Z (oneS p) t) (λl h hs=>⟨(),cN (hs) (m:=l) (h:=h)⟩) λ_ qs101=>?_;obtain⟨L100,wu100,ku100⟩:=dc qs101;refine fk (TD t.nd L100) wu100 ?_;refine dsU {a:=[br Γ (oneS L100) t.kids]} (λl h hs=>co ku100 (hs) (m:=l) (h:=h)) ?_;refine bo (t.nd.k=8) rfl (λcd3=>?_) λcd3=>?_
    .refine dD {r:=[(bR (oneS L100) ix)]} _ (λl h hs=>fC (m:=l) (h:=h) (i:=ix) Kg0 Kg0 hs) λkd103=>?_;have kz103:=kd103.2;refine dsU {a:=[bB Γ (oneS (bR (oneS L100) ix)) (lget t.kids ix)]} (λl h hs=>eE kd103.1 (hs) (m:=l) (h:=h)) ?_;refine bQ (α:=Unit) (λ(_:Unit)=>{a:=[bB Γ (oneS (bR (oneS L100) ix)) (lget t.kids ix)]}) (λ(_:Unit)=>TreeAt Γ Z (oneS (bR (oneS L100) ix)) (lget t.kids ix)) (λl h hs=>⟨(),cN (hs) (m:=l) (h:=h)⟩) λ_ qs106=>?_;obtain⟨L105,wu105,ku105⟩:=dc qs106;refine fk (TD ((lget t.kids ix).nd) L105) wu105 ?_;refine dsU {a:=[br Γ (oneS L105) ((lget t.kids ix).kids)]} (λl h hs=>co ku105 (hs) (m:=l) (h:=h)) ?_;refine bo (((lget t.kids ix).nd.k)=0) rfl (λcd4=>?_) λcd4=>?_
     .refine dD {r:=[(bR (oneS L100) ix)]} _ (λl h hs=>fC (m:=l) (h:=h) (i:=ix) Kg0 Kg0 hs) λkd108=>?_;have kz108:=kd108.2;refine dsU {a:=[bB Γ (oneS (bR (oneS L100) ix)) (lget t.kids ix)]} (λl h hs=>eE kd108.1 (hs) (m:=l) (h:=h)) ?_;refine dcU {b:=[(eY (lget t.kids ix) t.nd.k)],a:=[bB Γ (oneS (bR (oneS L100) ix)) (lget t.kids ix)]} (λl h hs=>IHtreeright_runs (h:=h) (l:=l) Γ (bR (oneS L100) ix) t.nd.k (lget t.kids ix) Kg0 Kg0 hs) λZ=>?_;refine bE (show I6 (ix+1)from Kg0) ?_;exact bu (ih _ (eY (lget t.kids ix) t.nd.k) (ix+1) Kg0 Kg0) rfl rfl
     .refine bE (show I6 (ix+1)from Kg0) ?_;exact bu (ih _ false (ix+1) Kg0 Kg0) rfl rfl
    .refine dD {r:=[(bR (oneS L100) ix)]} _ (λl h hs=>fC (m:=l) (h:=h) (i:=ix) Kg0 Kg0 hs) λkd111=>?_;have kz111:=kd111.2;refine dsU {a:=[bB Γ (oneS (bR (oneS L100) ix)) (lget t.kids ix)]} (λl h hs=>eE kd111.1 (hs) (m:=l) (h:=h)) ?_;refine dcU {b:=[(eY (lget t.kids ix) t.nd.k)],a:=[bB Γ (oneS (bR (oneS L100) ix)) (lget t.kids ix)]} (λl h hs=>IHtreeright_runs (h:=h) (l:=l) Γ (bR (oneS L100) ix) t.nd.k (lget t.kids ix) Kg0 Kg0 hs) λZ=>?_;refine bE (show I6 (ix+1)from Kg0) ?_;exact bu (ih _ (eY (lget t.kids ix) t.nd.k) (ix+1) Kg0 Kg0) rfl rfl
   .exact an λh hs=>⟨TH,by(show(bV false:SV)=_;clear hs;first|(rw[tn hi.2.2 bj];done)|(rw[yW hi.2.2 (by simp_all)];done)),hs⟩
  .exact an λh hs=>⟨TH,by(show(bV ok:SV)=_;clear hs;first|(rw[tn hi.2.2 bj];done)|(rw[yW hi.2.2 (by simp_all)];done)),hs⟩
theorem RH(p:SV)(above:Int)(t:Tr)(T:Int)(hk:(sizeL t.kids:Int)<=1900000)(hT:((sizeL t.kids:Int))<=T)(IHtreeright_runs:Nt T)(hs:St Z0 (bB Γ (oneS p) t::l) h):RC Γ Z0 94 [(oneS p),iV above] h (PB Γ p above t T l):=by
 refine bL Tryz.f94 Tryz.func94 [.raw 0,vI 0] [.asr 0] ⟨1,0,0,1,0,1⟩ (va {i:=[above],r:=[p],a:=[bB Γ (oneS p) t]}) (.swap [.asr 0] [.asr 1] ⟨1,0,0,1,0,2⟩<|.win 0 (nX 1 0 0 (.raw 1)) ⟨15,2,5,2,0,2⟩<|.swap [] [.asr 2] ⟨15,2,5,2,0,3⟩<|.fork (.eq (.v 1) (.z 0)) (.call 141 [.agg [vI 2,vI 3,vI 4,vT 0,vB 0,vI 5],.bool (.eq (.v 0) (.z 8))] [] (vB 5) [] ⟨15,2,6,2,0,3⟩<|.fork (.bv 5) (.swap [] [.asr 3] ⟨15,2,6,2,0,4⟩<|.call 142 [.raw 0,.agg [Fd,vI 2,vI 3,vI 4,vT 0,vB 0,vI 5,.txt (.tl []),Fd,Fd,Fd,Fd,TA,TA,Fd,Fd,Fd,Fd,TA,TA,Fd,.lit mt]] [.asr 1,.asr 3] (vB 6) [.asr 4,.asr 5] ⟨15,2,7,2,0,6⟩<|.stop [1,1,1] zg4 [.asr 4])<|.stop [1,1,1] zg3 [.asr 1])<|.fork (.eq (.v 1) (.z 1)) (.fork (.and (.eq (.v 6) (.z 0)) (.eq (.v 7) (.z 0))) (.stop [1,1,1] zg3 [.asr 1])<|.fork (.and (.eq (.v 8) (.z 0)) (.eq (.v 9) (.z 0))) (.stop [1,1,1] zg3 [.asr 1])<|.swap [] [.asr 3] ⟨15,2,5,2,0,4⟩<|.call 142 zg0 [.asr 1,.asr 3] (vB 5) [.asr 4,.asr 5] ⟨15,2,6,2,0,6⟩<|.stop [1,1,1] zg5 [.asr 4])<|.fork (.eq (.v 1) (.z 3)) (.fork (.and (.eq (.v 6) (.z 0)) (.eq (.v 7) (.z 0))) (.stop [1,1,1] zg3 [.asr 1])<|.fork (.and (.eq (.v 8) (.z 0)) (.eq (.v 9) (.z 0))) (.stop [1,1,1] zg3 [.asr 1])<|.swap [] [.asr 3] ⟨15,2,5,2,0,4⟩<|.call 142 zg0 [.asr 1,.asr 3] (vB 5) [.asr 4,.asr 5] ⟨15,2,6,2,0,6⟩<|.stop [1,1,1] zg5 [.asr 4])<|.fork (.eq (.v 1) (.z 2)) (.call 143 [.agg [vI 6,vI 7,vI 8,vI 9,vB 1,vB 2,vI 10,vI 11,vI 12,vI 13,vB 3,vB 4]] [] (vB 5) [] ⟨15,2,6,2,0,3⟩<|.fork (.bv 5) (.swap [] [.asr 3] ⟨15,2,6,2,0,4⟩<|.call 142 [.raw 0,.agg [Fd,Fd,Fd,Fd,.txt (.tl []),TA,Fd,.txt (.tl []),vI 6,vI 7,vI 8,vI 9,vB 1,vB 2,vI 10,vI 11,vI 12,vI 13,vB 3,vB 4,Fd,.lit mt]] [.asr 1,.asr 3] (vB 6) [.asr 4,.asr 5] ⟨15,2,7,2,0,6⟩<|.stop [1,1,1] zg4 [.asr 4])<|.stop [1,1,1] zg3 [.asr 1])<|.fork (.eq (.v 1) (.z 4)) (.call 144 [vT 1] [] (vB 5) [] ⟨15,2,6,2,0,3⟩<|.fork (.bv 5) (.row (.len 83 (.raw 1)) [.asr 2] (vI 15) ⟨16,2,6,2,0,3⟩<|.fork (.le (.v 15) (.z 32)) (.row (.len 83 (.raw 1)) [.asr 2] (vI 16) ⟨17,2,6,2,0,3⟩<|.fork (.eq (.v 16) (.z 1)) (.row (.idxA 83 (.raw 1) (Fd)) [.asr 2] (.raw 2) ⟨17,2,6,3,0,3⟩<|.swap [] [.asr 3] ⟨17,2,6,3,0,4⟩<|.swap [.asr 3] [.asr 4] ⟨17,2,6,3,0,5⟩<|.win 2 (nX 17 2 6 (.raw 3)) ⟨31,4,11,4,0,5⟩<|.swap [] [.asr 5] ⟨31,4,11,4,0,6⟩<|.fork (.eq (.v 17) (.z 9)) (.stop [1,1,1] zg3 [.asr 1])<|.call 142 zg1 [.asr 1,.asr 2] (vB 11) [.asr 6,.asr 7] ⟨31,4,12,4,0,8⟩<|.stop [1,1,1] [(0,.raw 0),(5,vB 11)] [.asr 6])<|.call 142 zg1 [.asr 1,.asr 2] (vB 6) [.asr 3,.asr 4] ⟨17,2,7,2,0,5⟩<|.stop [1,1,1] zg4 [.asr 3])<|.stop [1,1,1] zg3 [.asr 1])<|.stop [1,1,1] zg3 [.asr 1])<|.fork (.eq (.v 1) (.z 5)) (.call 145 [vT 1] [] (vB 5) [] ⟨15,2,6,2,0,3⟩<|.fork (.bv 5) (.row (.len 83 (.raw 1)) [.asr 2] (vI 15) ⟨16,2,6,2,0,3⟩<|.fork (.eq (.v 15) (.z 1)) (.call 142 zg1 [.asr 1,.asr 2] (vB 6) [.asr 3,.asr 4] ⟨16,2,7,2,0,5⟩<|.stop [1,1,1] zg4 [.asr 3])<|.stop [1,1,1] zg3 [.asr 1])<|.stop [1,1,1] zg3 [.asr 1])<|.fork (.eq (.v 1) (.z 6)) (.call 146 [vT 1] [] (vB 5) [] ⟨15,2,6,2,0,3⟩<|.fork (.bv 5) (.row (.len 83 (.raw 1)) [.asr 2] (vI 15) ⟨16,2,6,2,0,3⟩<|.fork (.eq (.v 15) (.z 2)) (.call 142 zg1 [.asr 1,.asr 2] (vB 6) [.asr 3,.asr 4] ⟨16,2,7,2,0,5⟩<|.stop [1,1,1] zg4 [.asr 3])<|.stop [1,1,1] zg3 [.asr 1])<|.stop [1,1,1] zg3 [.asr 1])<|.fork (.eq (.v 1) (.z 7)) (.call 147 [vT 1] [] (vB 5) [] ⟨15,2,6,2,0,3⟩<|.fork (.bv 5) (.swap [] [.asr 3] ⟨15,2,6,2,0,4⟩<|.call 142 [.raw 0,.agg [Fd,Fd,Fd,Fd,.txt (.tl []),TA,Fd,vT 1,Fd,Fd,Fd,Fd,TA,TA,Fd,Fd,Fd,Fd,TA,TA,Fd,.lit mt]] [.asr 1,.asr 3] (vB 6) [.asr 4,.asr 5] ⟨15,2,7,2,0,6⟩<|.stop [1,1,1] zg4 [.asr 4])<|.stop [1,1,1] zg3 [.asr 1])<|.fork (.eq (.v 1) (.z 8)) (.fork (.le (.z 1) (.v 14)) (.row (.len 83 (.raw 1)) [.asr 2] (vI 15) ⟨16,2,5,2,0,3⟩<|.fork (.le (.z 1) (.v 15)) (.row (.len 83 (.raw 1)) [.asr 2] (vI 16) ⟨17,2,5,2,0,3⟩<|.row (.bin .rem 3 (vI 16) (vI 14)) [] (vI 17) ⟨18,2,5,2,0,3⟩<|.fork (.eq (.v 17) (.z 0)) (.call 142 [.raw 0,.agg [Fd,Fd,Fd,Fd,.txt (.tl []),TA,Fd,.txt (.tl []),Fd,Fd,Fd,Fd,TA,TA,Fd,Fd,Fd,Fd,TA,TA,vI 14,.raw 1]] [.asr 1,.asr 2] (vB 5) [.asr 3,.asr 4] ⟨18,2,6,2,0,5⟩<|.stop [1,1,1] zg5 [.asr 3])<|.stop [1,1,1] zg3 [.asr 1])<|.stop [1,1,1] zg3 [.asr 1])<|.stop [1,1,1] zg3 [.asr 1])<|.fork (.eq (.v 1) (.z 9)) (.fork (.eq (.v 0) (.z 4)) (.swap [] [.asr 3] ⟨15,2,5,2,0,4⟩<|.call 142 [.raw 0,.agg [Fd,Fd,Fd,Fd,.txt (.tl []),TA,Fd,.txt (.tl []),Fd,Fd,Fd,Fd,TA,TA,Fd,Fd,Fd,Fd,TA,TA,Fd,.lit mt]] [.asr 1,.asr 3] (vB 5) [.asr 4,.asr 5] ⟨15,2,6,2,0,6⟩<|.stop [1,1,1] zg5 [.asr 4])<|.stop [1,1,1] zg3 [.asr 1])<|.stop [1,1,1] zg3 [.asr 1]) hs ?_;have j0:∀(Z:Hp) (okj:Bool) (_:RightI t above 0 okj),den (O3 Γ p above t T Z0 l) (.stop [1,1,1] [(0,.raw 0),(5,vB 0)] [.asr 1]) ⟨1,0,1,1,0,2⟩ (va {i:=[above],b:=[okj],r:=[p],a:=[bB Γ (oneS p) t,bB Γ (oneS p) t]}) Z:=by
  intro Z okj j0i;refine yd [1,1,1] [(0,.raw 0),(5,vB 0)] [.asr 1] [] ⟨1,0,1,1,0,2⟩ (.swap [.asr 1] [.asr 2] ⟨1,0,1,1,0,3⟩<|.win 0 (nX 1 0 1 (.raw 1)) ⟨15,2,6,2,0,3⟩<|.swap [] [.asr 3] ⟨15,2,6,2,0,4⟩<|.row (.len 83 (.raw 1)) [.asr 3] (vI 15) ⟨16,2,6,2,0,4⟩<|.stop [0,1,0,1,1,1] [(0,.raw 0),(5,vB 0),(250,vI 15),(251,Fd)] [.asr 2]) 100000 bm (λ_ h=>by cases h) ?_;refine bQ (α:=Unit) (λ(_:Unit)=>{a:=[bB Γ (oneS p) t]}) (λ(_:Unit)=>TreeAt Γ Z (oneS p) t) (λl h hs=>⟨(),cN (hs) (m:=l) (h:=h)⟩) λ_ qs2=>?_;obtain⟨L1,wu1,ku1⟩:=dc qs2;refine fk (TD t.nd L1) wu1 ?_;refine dsU {a:=[br Γ (oneS L1) t.kids]} (λl h hs=>co ku1 (hs) (m:=l) (h:=h)) ?_;refine dD {i:=[(t.kids.length:Int)]} _ (λl h hs=>dN (m:=l) (h:=h) hs) λkl4=>?_;exact bu (Mn Γ p above t T hk hT IHtreeright_runs okj L1 _ _ okj 0 Kg0 (aq _)) rfl rfl
 refine bQ (α:=Unit) (λ(_:Unit)=>{a:=[bB Γ (oneS p) t]}) (λ(_:Unit)=>TreeAt Γ Z0 (oneS p) t) (λl h hs=>⟨(),cN (hs) (m:=l) (h:=h)⟩) λ_ qs6=>?_;obtain⟨L5,wu5,ku5⟩:=dc qs6;refine fk (TD t.nd L5) wu5 ?_;refine dsU {a:=[br Γ (oneS L5) t.kids]} (λl h hs=>co ku5 (hs) (m:=l) (h:=h)) ?_;refine bo (t.nd.k=0) rfl (λcd1=>?_) λcd1=>?_
 .refine cU {b:=[(fy t.nd.v0 t.nd.v1 t.nd.v2 t.nd.v3 t.nd.v4 t.nd.v5 (decide (above=8)))]} (λl h hs=>RY Γ t.nd.v0 t.nd.v1 t.nd.v2 t.nd.v3 t.nd.v4 t.nd.v5 (decide (above=8)) hs) ?_;refine bo ((fy t.nd.v0 t.nd.v1 t.nd.v2 t.nd.v3 t.nd.v4 t.nd.v5 (decide (above=8)))=true) rfl (λcd2=>?_) λcd2=>?_
  .refine dsU {a:=[br Γ (oneS (.lit mt)) ([]:List Tr)]} (λl h hs=>cD (hs) (l:=l) (h:=h)) ?_;refine dcU {b:=[(dY t.nd (ND.mk 0 t.nd.v0 t.nd.v1 t.nd.v2 t.nd.v3 t.nd.v4 t.nd.v5 ([]:bn) 0 0 0 0 false false 0 0 0 0 false false 0) (t.kids.length:Int) (([]:List Tr).length:Int))],a:=[bB Γ (oneS p) t,br Γ (oneS (.lit mt)) ([]:List Tr)]} (λ_ _=>qY Γ p (ND.mk 0 t.nd.v0 t.nd.v1 t.nd.v2 t.nd.v3 t.nd.v4 t.nd.v5 ([]:bn) 0 0 0 0 false false 0 0 0 0 false false 0) (.lit mt) t ([]:List Tr)) λZ=>?_;exact bu (j0 _ (dY t.nd (ND.mk 0 t.nd.v0 t.nd.v1 t.nd.v2 t.nd.v3 t.nd.v4 t.nd.v5 ([]:bn) 0 0 0 0 false false 0 0 0 0 false false 0) (t.kids.length:Int) (([]:List Tr).length:Int)) Kg0) rfl rfl
  .exact bu (j0 _ false Kg0) rfl rfl
 .refine bo (t.nd.k=1) rfl (λcd2=>?_) λcd2=>?_
  .refine bo ((t.nd.a0=0)/\(t.nd.a1=0)) rfl (λcd3=>?_) λcd3=>?_
   .exact bu (j0 _ false Kg0) rfl rfl
   .refine bo ((t.nd.a2=0)/\(t.nd.a3=0)) rfl (λcd4=>?_) λcd4=>?_
    .exact bu (j0 _ false Kg0) rfl rfl
    .refine dsU {a:=[br Γ (oneS (.lit mt)) ([]:List Tr)]} (λl h hs=>cD (hs) (l:=l) (h:=h)) ?_;refine dcU {b:=[(dY t.nd (ND.mk 0 0 0 0 ([]:bn) false 0 ([]:bn) t.nd.a0 t.nd.a1 t.nd.a2 t.nd.a3 t.nd.a4 t.nd.a5 0 0 0 0 false false 0) (t.kids.length:Int) (([]:List Tr).length:Int))],a:=[bB Γ (oneS p) t,br Γ (oneS (.lit mt)) ([]:List Tr)]} (λ_ _=>qY Γ p (ND.mk 0 0 0 0 ([]:bn) false 0 ([]:bn) t.nd.a0 t.nd.a1 t.nd.a2 t.nd.a3 t.nd.a4 t.nd.a5 0 0 0 0 false false 0) (.lit mt) t ([]:List Tr)) λZ=>?_;exact bu (j0 _ (dY t.nd (ND.mk 0 0 0 0 ([]:bn) false 0 ([]:bn) t.nd.a0 t.nd.a1 t.nd.a2 t.nd.a3 t.nd.a4 t.nd.a5 0 0 0 0 false false 0) (t.kids.length:Int) (([]:List Tr).length:Int)) Kg0) rfl rfl
  .refine bo (t.nd.k=3) rfl (λcd3=>?_) λcd3=>?_
   .refine bo ((t.nd.a0=0)/\(t.nd.a1=0)) rfl (λcd4=>?_) λcd4=>?_
    .exact bu (j0 _ false Kg0) rfl rfl
    .refine bo ((t.nd.a2=0)/\(t.nd.a3=0)) rfl (λcd5=>?_) λcd5=>?_
     .exact bu (j0 _ false Kg0) rfl rfl
     .refine dsU {a:=[br Γ (oneS (.lit mt)) ([]:List Tr)]} (λl h hs=>cD (hs) (l:=l) (h:=h)) ?_;refine dcU {b:=[(dY t.nd (ND.mk 0 0 0 0 ([]:bn) false 0 ([]:bn) t.nd.a0 t.nd.a1 t.nd.a2 t.nd.a3 t.nd.a4 t.nd.a5 0 0 0 0 false false 0) (t.kids.length:Int) (([]:List Tr).length:Int))],a:=[bB Γ (oneS p) t,br Γ (oneS (.lit mt)) ([]:List Tr)]} (λ_ _=>qY Γ p (ND.mk 0 0 0 0 ([]:bn) false 0 ([]:bn) t.nd.a0 t.nd.a1 t.nd.a2 t.nd.a3 t.nd.a4 t.nd.a5 0 0 0 0 false false 0) (.lit mt) t ([]:List Tr)) λZ=>?_;exact bu (j0 _ (dY t.nd (ND.mk 0 0 0 0 ([]:bn) false 0 ([]:bn) t.nd.a0 t.nd.a1 t.nd.a2 t.nd.a3 t.nd.a4 t.nd.a5 0 0 0 0 false false 0) (t.kids.length:Int) (([]:List Tr).length:Int)) Kg0) rfl rfl
   .refine bo (t.nd.k=2) rfl (λcd4=>?_) λcd4=>?_
    .refine cU {b:=[(cY t.nd.a0 t.nd.a1 t.nd.a2 t.nd.a3 t.nd.a4 t.nd.a5 t.nd.b0 t.nd.b1 t.nd.b2 t.nd.b3 t.nd.b4 t.nd.b5)]} (λl h hs=>RV Γ t.nd.a0 t.nd.a1 t.nd.a2 t.nd.a3 t.nd.a4 t.nd.a5 t.nd.b0 t.nd.b1 t.nd.b2 t.nd.b3 t.nd.b4 t.nd.b5 hs) ?_;refine bo ((cY t.nd.a0 t.nd.a1 t.nd.a2 t.nd.a3 t.nd.a4 t.nd.a5 t.nd.b0 t.nd.b1 t.nd.b2 t.nd.b3 t.nd.b4 t.nd.b5)=true) rfl (λcd5=>?_) λcd5=>?_
     .refine dsU {a:=[br Γ (oneS (.lit mt)) ([]:List Tr)]} (λl h hs=>cD (hs) (l:=l) (h:=h)) ?_;refine dcU {b:=[(dY t.nd (ND.mk 0 0 0 0 ([]:bn) false 0 ([]:bn) t.nd.a0 t.nd.a1 t.nd.a2 t.nd.a3 t.nd.a4 t.nd.a5 t.nd.b0 t.nd.b1 t.nd.b2 t.nd.b3 t.nd.b4 t.nd.b5 0) (t.kids.length:Int) (([]:List Tr).length:Int))],a:=[bB Γ (oneS p) t,br Γ (oneS (.lit mt)) ([]:List Tr)]} (λ_ _=>qY Γ p (ND.mk 0 0 0 0 ([]:bn) false 0 ([]:bn) t.nd.a0 t.nd.a1 t.nd.a2 t.nd.a3 t.nd.a4 t.nd.a5 t.nd.b0 t.nd.b1 t.nd.b2 t.nd.b3 t.nd.b4 t.nd.b5 0) (.lit mt) t ([]:List Tr)) λZ=>?_;exact bu (j0 _ (dY t.nd (ND.mk 0 0 0 0 ([]:bn) false 0 ([]:bn) t.nd.a0 t.nd.a1 t.nd.a2 t.nd.a3 t.nd.a4 t.nd.a5 t.nd.b0 t.nd.b1 t.nd.b2 t.nd.b3 t.nd.b4 t.nd.b5 0) (t.kids.length:Int) (([]:List Tr).length:Int)) Kg0) rfl rfl
     .exact bu (j0 _ false Kg0) rfl rfl
    .refine bo (t.nd.k=4) rfl (λcd5=>?_) λcd5=>?_
     .refine dcU {b:=[(bK t.nd.name)]} (λ_ _=>Sl Γ t.nd.name) λZ=>?_;refine bo ((bK t.nd.name)=true) rfl (λcd6=>?_) λcd6=>?_
      .refine dD {i:=[(t.kids.length:Int)]} _ (λl h hs=>dN (m:=l) (h:=h) hs) λkl21=>?_;refine bo ((t.kids.length:Int)<=32) rfl (λcd7=>?_) λcd7=>?_
       .refine dD {i:=[(t.kids.length:Int)]} _ (λl h hs=>dN (m:=l) (h:=h) hs) λkl22=>?_;refine bo ((t.kids.length:Int)=1) rfl (λcd8=>?_) λcd8=>?_
        .refine dD {r:=[(bR (oneS L5) 0)]} _ (λl h hs=>fC (m:=l) (h:=h) (i:=0) Kg0 Kg0 hs) λkd23=>?_;have kz23:=kd23.2;refine dsU {a:=[bB Γ (oneS (bR (oneS L5) 0)) (lget t.kids 0)]} (λl h hs=>eE kd23.1 (hs) (m:=l) (h:=h)) ?_;refine bQ (α:=Unit) (λ(_:Unit)=>{a:=[bB Γ (oneS (bR (oneS L5) 0)) (lget t.kids 0)]}) (λ(_:Unit)=>TreeAt Γ Z (oneS (bR (oneS L5) 0)) (lget t.kids 0)) (λl h hs=>⟨(),cN (hs) (m:=l) (h:=h)⟩) λ_ qs26=>?_;obtain⟨L25,wu25,ku25⟩:=dc qs26;refine fk (TD ((lget t.kids 0).nd) L25) wu25 ?_;refine dsU {a:=[br Γ (oneS L25) ((lget t.kids 0).kids)]} (λl h hs=>co ku25 (hs) (m:=l) (h:=h)) ?_;refine bo (((lget t.kids 0).nd.k)=9) rfl (λcd9=>?_) λcd9=>?_
         .exact bu (j0 _ false Kg0) rfl rfl
         .refine dcU {b:=[(dY t.nd (TC t.nd.name) (t.kids.length:Int) (t.kids.length:Int))],a:=[bB Γ (oneS p) t,br Γ (oneS L5) t.kids]} (λ_ _=>qY Γ p (TC t.nd.name) L5 t t.kids) λZ=>?_;exact bu (j0 _ (dY t.nd (TC t.nd.name) (t.kids.length:Int) (t.kids.length:Int)) Kg0) rfl rfl
        .refine dcU {b:=[(dY t.nd (TC t.nd.name) (t.kids.length:Int) (t.kids.length:Int))],a:=[bB Γ (oneS p) t,br Γ (oneS L5) t.kids]} (λ_ _=>qY Γ p (TC t.nd.name) L5 t t.kids) λZ=>?_;exact bu (j0 _ (dY t.nd (TC t.nd.name) (t.kids.length:Int) (t.kids.length:Int)) Kg0) rfl rfl
       .exact bu (j0 _ false Kg0) rfl rfl
      .exact bu (j0 _ false Kg0) rfl rfl
     .refine bo (t.nd.k=5) rfl (λcd6=>?_) λcd6=>?_
      .refine cU {b:=[(gz t.nd.name)]} (λl h hs=>Te Γ t.nd.name hs) ?_;refine bo ((gz t.nd.name)=true) rfl (λcd7=>?_) λcd7=>?_
       .refine dD {i:=[(t.kids.length:Int)]} _ (λl h hs=>dN (m:=l) (h:=h) hs) λkl30=>?_;refine bo ((t.kids.length:Int)=1) rfl (λcd8=>?_) λcd8=>?_
        .refine dcU {b:=[(dY t.nd (TC t.nd.name) (t.kids.length:Int) (t.kids.length:Int))],a:=[bB Γ (oneS p) t,br Γ (oneS L5) t.kids]} (λ_ _=>qY Γ p (TC t.nd.name) L5 t t.kids) λZ=>?_;exact bu (j0 _ (dY t.nd (TC t.nd.name) (t.kids.length:Int) (t.kids.length:Int)) Kg0) rfl rfl
        .exact bu (j0 _ false Kg0) rfl rfl
       .exact bu (j0 _ false Kg0) rfl rfl
      .refine bo (t.nd.k=6) rfl (λcd7=>?_) λcd7=>?_
       .refine cU {b:=[(c7 t.nd.name)]} (λl h hs=>Sz Γ t.nd.name hs) ?_;refine bo ((c7 t.nd.name)=true) rfl (λcd8=>?_) λcd8=>?_
        .refine dD {i:=[(t.kids.length:Int)]} _ (λl h hs=>dN (m:=l) (h:=h) hs) λkl32=>?_;refine bo ((t.kids.length:Int)=2) rfl (λcd9=>?_) λcd9=>?_
         .refine dcU {b:=[(dY t.nd (TC t.nd.name) (t.kids.length:Int) (t.kids.length:Int))],a:=[bB Γ (oneS p) t,br Γ (oneS L5) t.kids]} (λ_ _=>qY Γ p (TC t.nd.name) L5 t t.kids) λZ=>?_;exact bu (j0 _ (dY t.nd (TC t.nd.name) (t.kids.length:Int) (t.kids.length:Int)) Kg0) rfl rfl
         .exact bu (j0 _ false Kg0) rfl rfl
        .exact bu (j0 _ false Kg0) rfl rfl
       .refine bo (t.nd.k=7) rfl (λcd8=>?_) λcd8=>?_
        .refine dcU {b:=[(bG t.nd.name)]} (λ_ _=>Ts Γ t.nd.name) λZ=>?_;refine bo ((bG t.nd.name)=true) rfl (λcd9=>?_) λcd9=>?_
         .refine dsU {a:=[br Γ (oneS (.lit mt)) ([]:List Tr)]} (λl h hs=>cD (hs) (l:=l) (h:=h)) ?_;refine dcU {b:=[(dY t.nd (TC t.nd.name) (t.kids.length:Int) (([]:List Tr).length:Int))],a:=[bB Γ (oneS p) t,br Γ (oneS (.lit mt)) ([]:List Tr)]} (λ_ _=>qY Γ p (TC t.nd.name) (.lit mt) t ([]:List Tr)) λZ=>?_;exact bu (j0 _ (dY t.nd (TC t.nd.name) (t.kids.length:Int) (([]:List Tr).length:Int)) Kg0) rfl rfl
         .exact bu (j0 _ false Kg0) rfl rfl
        .refine bo (t.nd.k=8) rfl (λcd9=>?_) λcd9=>?_
         .refine bo (1<=t.nd.rows) rfl (λcd10=>?_) λcd10=>?_
          .refine dD {i:=[(t.kids.length:Int)]} _ (λl h hs=>dN (m:=l) (h:=h) hs) λkl38=>?_;refine bo (1<=(t.kids.length:Int)) rfl (λcd11=>?_) λcd11=>?_
           .refine dD {i:=[(t.kids.length:Int)]} _ (λl h hs=>dN (m:=l) (h:=h) hs) λkl39=>?_;refine iQ {i:=[(Int.tmod (t.kids.length:Int) t.nd.rows)]} (λ_ xo yo=>Kb (a:=(t.kids.length:Int)) (b:=t.nd.rows) Kg0 xo yo) ?_;refine bo ((Int.tmod (t.kids.length:Int) t.nd.rows)=0) rfl (λcd12=>?_) λcd12=>?_
            .refine dcU {b:=[(dY t.nd (ND.mk 0 0 0 0 ([]:bn) false 0 ([]:bn) 0 0 0 0 false false 0 0 0 0 false false t.nd.rows) (t.kids.length:Int) (t.kids.length:Int))],a:=[bB Γ (oneS p) t,br Γ (oneS L5) t.kids]} (λ_ _=>qY Γ p (ND.mk 0 0 0 0 ([]:bn) false 0 ([]:bn) 0 0 0 0 false false 0 0 0 0 false false t.nd.rows) L5 t t.kids) λZ=>?_;exact bu (j0 _ (dY t.nd (ND.mk 0 0 0 0 ([]:bn) false 0 ([]:bn) 0 0 0 0 false false 0 0 0 0 false false t.nd.rows) (t.kids.length:Int) (t.kids.length:Int)) Kg0) rfl rfl
            .exact bu (j0 _ false Kg0) rfl rfl
           .exact bu (j0 _ false Kg0) rfl rfl
          .exact bu (j0 _ false Kg0) rfl rfl
         .refine bo (t.nd.k=9) rfl (λcd10=>?_) λcd10=>?_
          .refine bo (above=4) rfl (λcd11=>?_) λcd11=>?_
           .refine dsU {a:=[br Γ (oneS (.lit mt)) ([]:List Tr)]} (λl h hs=>cD (hs) (l:=l) (h:=h)) ?_;refine dcU {b:=[(dY t.nd (ND.mk 0 0 0 0 ([]:bn) false 0 ([]:bn) 0 0 0 0 false false 0 0 0 0 false false 0) (t.kids.length:Int) (([]:List Tr).length:Int))],a:=[bB Γ (oneS p) t,br Γ (oneS (.lit mt)) ([]:List Tr)]} (λ_ _=>qY Γ p (ND.mk 0 0 0 0 ([]:bn) false 0 ([]:bn) 0 0 0 0 false false 0 0 0 0 false false 0) (.lit mt) t ([]:List Tr)) λZ=>?_;exact bu (j0 _ (dY t.nd (ND.mk 0 0 0 0 ([]:bn) false 0 ([]:bn) 0 0 0 0 false false 0 0 0 0 false false 0) (t.kids.length:Int) (([]:List Tr).length:Int)) Kg0) rfl rfl
           .exact bu (j0 _ false Kg0) rfl rfl
          .exact bu (j0 _ false Kg0) rfl rfl
theorem OM:∀T:Nat,Nt (T:Int)
 |0=>λΓ _ p above t hk hT=>by omega
 |T+1=>λΓ _ p above t hk hT Z0 h l hs=>RH Γ p above t (T:Int) hk bj (OM T) hs
theorem Tj(p:SV)(above:Int)(t:Tr)(hk:(sizeL t.kids:Int)<=1900000)(hs:St Z0 (bB Γ (oneS p) t::l) h):RC Γ Z0 94 [(oneS p),iV above] h (Mg Γ p above t l):=by
 exact OM (((sizeL t.kids:Int)).toNat+1) Γ p above t hk bj hs
theorem ei(b n c:Nat):oneS (.slice b 0 n c)=.slice b 0 n c:=cm rfl (by simp only[SV.same,bb,aF])
theorem BR(b n k c:Nat):oneS (.row b 0 n k c)=.row b 0 n k c:=cm rfl (by simp only[SV.same,bb,aF])
theorem uq{α:Type}{size:Nat}:∀(l:List (List α)) (n:Nat),(∀x∈l,x.length=size)->(l.take n).flatten=l.flatten.take (n*size)
 |[],n,_=>by simp
 |x::l,0,_=>by simp
 |x::l,n+1,h=>by
  have hx:=h x (ak ..);have e1:x.take ((n+1)*size)=x:=List.take_of_length_le (by rw[hx];exact Nat.le_mul_of_pos_left size (Nat.succ_pos n));rw[List.take_succ_cons,aZ,aZ,uq l n λy hy=>h y (am _ hy),List.take_append,e1,hx,Nat.succ_mul,Nat.add_sub_cancel]
section
variable {P:Program}{Z h:Hp}{m:List Asrt}{e:TypeId}{size:Nat}{v:SV}{α:Type}{enc:α->List SV}{L:List α}
def tkP(v:SV)(n:Nat):SV:=match v with
 | .slice b off _ c=>.slice b off n c
 | .row b off _ k cv=>.row b off n k cv
 |v=>v
theorem Fa{t:TypeId}{n:Int}(ht:tyU P t=some (.slice e))(hs:bI P e=some size)(s:St Z (lsA e size enc v L::m) h)(h0:0<=n)(h1:n<=L.length)(h2:0<L.length):True/\∃fs:List Fact,one (d9 P t v none (some (iV n)) none)=some (oneS (tkP v n.toNat),fs):=by
 obtain⟨k,rfl⟩:=Int.eq_ofNat_of_zero_le h0;have s:St Z (dL e size v (L.map enc)::m) h:=s;obtain⟨hall,hh⟩:=dR s;have hlen:(L.map enc).length=L.length:=ao ..;refine⟨trivial,[],?_⟩;rcases hh with⟨_,hn,_⟩|⟨b,o,hb,hlt,⟨cs,⟨c,rfl,c1,c2,ho,c3⟩|⟨j,rfl,c1,ho,c3⟩,hc⟩,s1⟩
 .rw[List.map_eq_nil_iff]at hn;rw[hn]at h2;exact absurd h2 (Nat.lt_irrefl _)
 .have hb1:Nat.ble k c=true:=ai bj;have hb2:Nat.beq c 0=false:=fH (by rw[hlen]at c1;omega);have:d9 P t (.slice b 0 (L.map enc).length c) none (some (.lit (.int .i64 (Int.ofNat k)))) none=some (.slice b 0 k c):=by
   simp only[d9,ht,hs,dV,hb1,bf,hb2,bg,Nat.zero_mul,Nat.add_zero,Nat.sub_zero]
  show one (d9 P t (.slice b 0 (L.map enc).length c) none (some (.lit (.int .i64 (Int.ofNat k)))) none)=some (oneS (.slice b 0 k c),_);rw[this,ei];rfl
 .have hb1:Nat.ble k j=true:=ai bj;have hb2:Nat.blt 0 j=true:=ai (by rw[hlen]at c1;omega);have:d9 P t (.row b 0 (L.map enc).length j b) none (some (.lit (.int .i64 (Int.ofNat k)))) none=some (.row b 0 k j b):=by
   simp only[d9,ht,hs,dV,hb1,bf,hb2,Nat.zero_mul,Nat.add_zero,Nat.sub_zero]
  show one (d9 P t (.row b 0 (L.map enc).length j b) none (some (.lit (.int .i64 (Int.ofNat k)))) none)=some (oneS (.row b 0 k j b),_);rw[this,BR];rfl
theorem KA{k:Nat}(h1:k<=L.length)(s:St Z (lsA e size enc v L::m) h):St Z (lsA e size enc (oneS (tkP v k)) (L.take k)::m) h:=by
 have s:St Z (dL e size v (L.map enc)::m) h:=s;obtain⟨hall,hh⟩:=dR s;have hlen:(L.map enc).length=L.length:=ao ..;have hk:k<=(L.map enc).length:=by rw[hlen];omega
 have htl:((L.take k).map enc).length=k:=by rw[ao,aL];omega
 have hta:∀x∈(L.take k).map enc,x.length=size/\x.all SV.one=true:=λx hx=>by
  rw[List.map_take]at hx;exact hall x (List.mem_of_mem_take hx)
 have hfl:∀cs:List SV,cs.take ((L.map enc).length*size)=(L.map enc).flatten->cs.take (((L.take k).map enc).length*size)=((L.take k).map enc).flatten:=λcs hc=>by
  rw[htl,List.map_take,uq _ _ λx hx=>(hall x hx).1,<-hc,List.take_take,Nat.min_eq_left (Nat.mul_le_mul_right _ hk)]
 have hsz:((L.take k).map enc).length*size<=(L.map enc).length*size:=by rw[htl];exact Nat.mul_le_mul_right _ hk
 show St Z (dL e size (oneS (tkP v k)) ((L.take k).map enc)::m) h;rcases hh with⟨rfl,hn,s1⟩|⟨b,o,hb,hlt,⟨cs,⟨c,rfl,c1,c2,ho,c3⟩|⟨j,rfl,c1,ho,c3⟩,hc⟩,s1⟩
 .rw[List.map_eq_nil_iff]at hn;rw[hn,List.take_nil,show tkP (.lit (.slice none 0 0)) k=.lit (.slice none 0 0)from rfl,show oneS (.lit (.slice none 0 0))=.lit (.slice none 0 0)from cm rfl (by simp[SV.same,dr])];exact kZ.2 s1
 .obtain rfl:=ab ho;show St Z (dL e size (oneS (.slice b 0 k c)) _::m) h;rw[ei];exact ee hta s1 ⟨cs,.inl ⟨c,by rw[htl],by omega,c2,rfl,c3⟩,hfl cs hc⟩
 .obtain rfl:=ab ho;show St Z (dL e size (oneS (.row b 0 k j b)) _::m) h;rw[BR];exact ee hta s1 ⟨cs,.inr ⟨j,by rw[htl],by omega,rfl,Nat.le_trans hsz c3⟩,hfl cs hc⟩
end
theorem Jt{P:Program}{t e:TypeId}{size b off n c k:Nat}(ht:tyU P t=some (.slice e))(hs:bI P e=some size)(h:Nat.ble k c=true)(h2:Nat.beq c 0=false):one (d9 P t (.slice b off n c) none (some (iV (Int.ofNat k))) none)=some (.slice b off k c,[]):=by
 have:d9 P t (.slice b off n c) none (some (.lit (.int .i64 (Int.ofNat k)))) none=some (.slice b off k c):=by
  simp only[d9,ht,hs,dV,h,bf,h2,bg,Nat.zero_mul,Nat.add_zero,Nat.sub_zero]
 show one (d9 P t (.slice b off n c) none (some (.lit (.int .i64 (Int.ofNat k)))) none)=_;rw[this];rfl
inductive AT where
 |mk (p:SV) (x:ND) (ks:List AT)
def AT.p:AT->SV
 | .mk p _ _=>p
def AT.nd:AT->ND
 | .mk _ x _=>x
def AT.kids:AT->List AT
 | .mk _ _ ks=>ks
instance:Inhabited AT:=⟨.mk (.lit .nilIface) default []⟩
mutual
def AT.tr:AT->Tr
 | .mk _ x ks=>.mk x (trL ks)
def trL:List AT->List Tr
 |[]=>[]
 |a::l=>a.tr::trL l
end
theorem pY:∀l:List AT,trL l=l.map AT.tr
 |[]=>rfl
 |a::l=>by rw[trL,pY l];rfl
mutual
def preA:AT->Int->List (AT×Int)
 | .mk p x ks,d=>(.mk p x ks,d)::preL ks (d+1)
def preL:List AT->Int->List (AT×Int)
 |[],_=>[]
 |a::l,d=>preA a d++preL l d
end
theorem B9(a:AT)(d:Int):preA a d=(a,d)::preL a.kids (d+1):=by cases a;rw[preA];rfl
theorem oo(d:Int):∀l:List AT,preL l d=l.flatMap λa=>preA a d
 |[]=>rfl
 |a::l=>by rw[preL,oo d l];rfl
def remA(ts:List (AT×Int)):List (AT×Int):=ts.reverse.flatMap λx=>preA x.1 x.2
theorem tF(ts:List (AT×Int))(a:AT)(d:Int):remA (ts++[(a,d)])=preA a d++remA ts:=by simp[remA]
theorem EU:remA []=[]:=rfl
inductive AtAt (Γ:Glob) (Z:Hp):AT->Prop
 |mk {p:SV} {x:ND} {L:SV} {ks:List AT}:PtrTo Γ Z p (x.cells L)->LenIs L ks.length->IdxAt L ks.length (λi=>(ks.getD i default).p)->(∀a∈ks,AtAt Γ Z a)->AtAt Γ Z (.mk p x ks)
section
variable {Γ:Glob}{Z Z' h:Hp}{a:AT}{p:SV}{t:Tr}{m:List Asrt}
theorem AtAt.sub(z:Sub Z Z')(w:AtAt Γ Z a):AtAt Γ Z' a:=by
 induction w with
 |mk h1 h2 h3 _ ih=>exact .mk (vU z h1) h2 h3 ih
theorem AtAt.tree(w:AtAt Γ Z a):TreeAt Γ Z a.p a.tr:=by
 induction w with
 |@mk p x L ks h1 h2 h3 _ ih=>
  show TreeAt Γ Z p (.mk x (trL ks));rw[pY];refine .mk (λi=>(ks.getD i default).p) h1 (by rw[ao];exact h2) (by rw[ao];exact h3) λi t ht=>?_;rw[aV,aa]at ht;obtain⟨b,hb,rfl⟩:=ht;rw[List.getD_eq_getElem?_getD,hb];exact ih b (aW hb)
theorem AtAt.one(w:AtAt Γ Z a):oneS a.p=a.p:=yh w.tree
theorem TreeAt.places(w:TreeAt Γ Z p t):∃a:AT,a.p=p/\a.tr=t/\AtAt Γ Z a:=by
 induction w with
 |@mk p x L ks q h1 h2 h3 _ ih=>
  have hc:∀i:Nat,∃a:AT,∀t,ks[i]? =some t->a.p=q i/\a.tr=t/\AtAt Γ Z a:=λi=>by
   cases e:ks[i]? with
   |none=>exact⟨default,λt h=>by cases h⟩
   |some t=>
    obtain⟨a,ha⟩:=ih i t e;exact⟨a,λt' h=>by cases h;exact ha⟩
  obtain⟨f,hf⟩:=Classical.axiomOfChoice hc;have hl:((List.range ks.length).map f).length=ks.length:=by simp
  have hg:∀i (hi:i<ks.length),((List.range ks.length).map f)[i]? =some (f i):=λi hi=>by simp[hi]
  refine⟨.mk p x ((List.range ks.length).map f),rfl,?_,.mk (L:=L) h1 (by rw[hl];exact h2) (λi hi=>?_) λa ha=>?_⟩
  .show Tr.mk x (trL _)=_;rw[pY,List.map_map];congr 1;refine List.ext_getElem? λi=>?_;rw[aV];by_cases hi:i<ks.length
   .rw[List.getElem?_range hi,aB hi];exact congrArg some (hf i _ (aB hi)).2.1
   .rw[List.getElem?_eq_none (by simpa using hi),List.getElem?_eq_none (by simpa using hi)];rfl
  .rw[hl]at hi;rw[h3 i hi];show some (q i)=some ((List.map f (List.range ks.length)).getD i default).p;rw[List.getD_eq_getElem?_getD,hg i hi];exact congrArg some (hf i _ (aB hi)).1.symm
  .obtain⟨i,hi,rfl⟩:=List.mem_map.1 ha;have hi:=List.mem_range.1 hi;exact(hf i _ (aB hi)).2.2
def atA(Γ:Glob)(a:AT):Asrt:=frA (λZ=>AtAt Γ Z a) λz w=>w.sub z
def AtsAt(Γ:Glob)(Z:Hp)(ts:List (AT×Int)):Prop:=∀x∈ts,AtAt Γ Z x.1
theorem AtsAt.sub{ts:List (AT×Int)}(z:Sub Z Z')(w:AtsAt Γ Z ts):AtsAt Γ Z' ts:=λx hx=>(w x hx).sub z
def iC(Γ:Glob)(ts:List (AT×Int)):Asrt:=frA (λZ=>AtsAt Γ Z ts) λz w=>w.sub z
def stE(x:AT×Int):List SV:=[oneS x.1.p,iV x.2]
theorem H2(x:AT×Int):(stE x).length=2/\(stE x).all SV.one=true:=⟨rfl,by simp only[stE,al,List.all_nil,(iZ _).1];rfl⟩
def KatOf(Γ:Glob)(Z:Hp)(L:SV)(ks:List AT):Prop:=LenIs L ks.length/\IdxAt L ks.length (λi=>(ks.getD i default).p)/\∀a∈ks,AtAt Γ Z a
theorem KatOf.sub{L:SV}{ks:List AT}(z:Sub Z Z')(w:KatOf Γ Z L ks):KatOf Γ Z' L ks:=⟨w.1,w.2.1,λa ha=>(w.2.2 a ha).sub z⟩
def Ai(Γ:Glob)(L:SV)(ks:List AT):Asrt:=frA (λZ=>KatOf Γ Z L ks) λz w=>w.sub z
theorem vV{ts:List (AT×Int)}(w:AtsAt Γ Z ts)(s:St Z m h):St Z (iC Γ ts::m) h:=cX.2 ⟨w,s⟩
theorem wv{ts:List (AT×Int)}(s:St Z (iC Γ ts::m) h):AtsAt Γ Z ts/\St Z m h:=cX.1 s
theorem zS(w:AtAt Γ Z a)(s:St Z m h):St Z (atA Γ a::m) h:=cX.2 ⟨w,s⟩
theorem z7(s:St Z (atA Γ a::m) h):AtAt Γ Z a/\St Z m h:=cX.1 s
theorem EJ(w:AtAt Γ Z a):∃L,PtrTo Γ Z (oneS a.p) (a.nd.cells (oneS L))/\KatOf Γ Z (oneS L) a.kids:=by
 have e:=w.one;cases w with
 |@mk p x L ks h1 h2 h3 h4=>
  have hL:oneS L=L:=cm h2.1 h2.2.1;refine⟨L,?_,?_⟩
  .rw[e,hL];exact h1
  .rw[hL];exact⟨h2,h3,h4⟩
theorem Cw(s:St Z (atA Γ a::m) h):AtAt Γ Z a/\St Z (atA Γ a::m) h:=⟨(z7 s).1,s⟩
theorem BQ{L:SV}{ks:List AT}(w:KatOf Γ Z L ks)(s:St Z m h):St Z (Ai Γ L ks::m) h:=cX.2 ⟨w,s⟩
theorem CH{L:SV}{ks:List AT}(s:St Z (Ai Γ L ks::m) h):KatOf Γ Z L ks/\St Z m h:=cX.1 s
theorem vm{L:SV}{ks:List AT}(s:St Z (Ai Γ L ks::m) h):True/\∃fs,gy Tryz.prog h 83 L=some (iV (ks.length:Int),fs):=⟨trivial,[],(CH s).1.1.2.2.1 h⟩
theorem I9{L:SV}{ks:List AT}{i:Int}(h0:0<=i)(h1:i<ks.length)(s:St Z (Ai Γ L ks::m) h):AtAt Γ Z (lget ks i)/\∃fs,one (bT Tryz.prog 83 L (iV i))=some (oneS (lget ks i).p,fs):=by
 obtain⟨_,w2,w3⟩:=(CH s).1;obtain⟨n,rfl⟩:=Int.eq_ofNat_of_zero_le h0;have hn:n<ks.length:=by omega
 have hg:=dG (L:=ks) h0 h1;have hm:lget ks (n:Int)∈ks:=aW hg;refine⟨w3 _ hm,[],?_⟩;have e:bT Tryz.prog 83 L (.lit (.int .i64 (Int.ofNat n)))=some (ks.getD n default).p:=w2 n hn;rw[List.getD_eq_getElem?_getD,show ks[n]? =some (lget ks (n:Int))from hg]at e;show one (bT Tryz.prog 83 L (.lit (.int .i64 (Int.ofNat n))))=_;rw[e,(w3 _ hm).one];rfl
theorem Nl{ts:List (AT×Int)}{i:Int}(h0:0<=i)(h1:i<ts.length)(s:St Z (iC Γ ts::m) h):St Z (atA Γ (lget ts i).1::iC Γ ts::m) h:=zS ((wv s).1 _ (aW (dG h0 h1))) s
theorem Gq{ts:List (AT×Int)}{d:Int}(s:St Z (iC Γ ts::atA Γ a::m) h):St Z (iC Γ (ts++[(a,d)])::m) h:=by
 obtain⟨w,s1⟩:=wv s;obtain⟨w1,s2⟩:=z7 s1;refine vV (λx hx=>?_) s2;rcases List.mem_append.1 hx with hx|hx
 .exact w x hx
 .rw[List.mem_singleton.1 hx];exact w1
theorem EY{ts us:List (AT×Int)}(hu:∀x∈us,x∈ts)(s:St Z (iC Γ ts::m) h):St Z (iC Γ us::m) h:=by
 obtain⟨w,s'⟩:=wv s;exact vV (λx hx=>w x (hu x hx)) s'
theorem Gm{d:Int}(s:St Z (atA Γ a::m) h):St Z (iC Γ [(a,d)]::atA Γ a::m) h:=vV (λx hx=>by rw[List.mem_singleton.1 hx];exact(z7 s).1) s
theorem GX{ts:List (AT×Int)}{n:Nat}(s:St Z (iC Γ ts::m) h):St Z (iC Γ (List.take n ts)::m) h:=EY (λ_ hx=>List.mem_of_mem_take hx) s
theorem IY{e:TypeId}{b:Nat}{cs:List SV}{d:Int}(hc:cs=[oneS a.p,iV d])(s:St Z (own b (.cells cs e)::m) h):St Z (lsA e 2 stE (.slice b 0 1 1) [(a,d)]::m) h:=
 iU (λx _=>H2 x) rfl (by rw[hc];rfl) (by decide) s
theorem HA{b C:Nat}{e:TypeId}(s:St Z (bB Γ (.ptr b 0) t::own C (.cells [oneS (.ptr b 0)] e)::m) h):∃a:AT,(a.p=.ptr b 0/\a.tr=t)/\St Z (atA Γ a::own C (.cells [oneS a.p] e)::bB Γ (.ptr b 0) t::m) h:=by
 obtain⟨w,s'⟩:=cX.1 s;obtain⟨a,h1,h2,h3⟩:=w.places;refine⟨a,⟨h1,h2⟩,zS h3 ?_⟩;rw[h1];exact s.perm (List.Perm.swap ..)
end
abbrev zh0:List MI:=[.asr 18,.asr 19,.asr 13,.asr 17,.blk 3 [.raw 3,vI 2] 181,.asr 4,.blk 1 [.raw 0] 144]
abbrev zh1:List (Nat×XV):=[(0,.yield 0),(3,.raw 6),(4,.ptr 3 0),(5,.raw 5),(6,vI 19)]
abbrev zh2:List MI:=[.asr 8,.asr 7,.asr 4,.asr 6,.blk 1 [.raw 0] 144]
abbrev zh3:List (Nat×XV):=[(0,.yield 0),(3,.raw 1)]
theorem Kh0{P:Prop}(h:P:=by first|omega|(and_intros<;>intros<;>and_intros<;>first|omega|assumption|exact rf|(have w1:=ki a 1;simp only[au,aw];omega)|exact GT hi.2.2.2 bj bj|exact jH hi.2.2.2 bj bj|exact nM hi.2.2.2 bj bj|exact gQ hi.2.2.2.2.2.2.2.2 bj bj|exact rR hi.2.2.2.2.2.2.2.2 bj bj|(have w1:=jk hi.2.2.2 bj bj;have w2:=kP hi.2.2.2 bj bj;have w3:=jI hi.2.2.2 bj bj;simp only[lowA]at w3;omega)|(have w1:=kO hi.2.2.2 bj bj bj;omega)|(have w1:=jG hi.2.2.2.2.2.2.2.2 bj bj;simp only[ac,au,aw];omega)|(have w1:=jG (gQ hi.2.2.2.2.2.2.2.2 bj bj) bj bj;simp only[ac,au,aw]at*;omega)|exact V1)):P:=h
theorem Hu:gC Tryz.prog 181 2:=by
 have h:(Tryz.prog.info? 181).isSome=true:=bm;obtain⟨i,hi⟩:=Option.isSome_iff_exists.1 h;have h2:((Tryz.prog.info? 181).bind (·.zero)).isSome=true:=bm;rw[hi]at h2;obtain⟨z,hz⟩:=Option.isSome_iff_exists.1 h2;have h3:((Tryz.prog.info? 181).map λi=>Nat.beq i.size 2&&(Nat.ble i.bytes 1000&&(i.zero.map λz=>Nat.beq (SV.cells (.lit z)).length 2).getD false))=some true:=bm;have hz':i.zero=some z:=hz;rw[hi,af,hz',af,Option.getD_some,a7,a8,a8]at h3;exact⟨i,z,hi,hz',aj h3.1,aG h3.2.1,aj h3.2.2⟩
mutual
theorem m8:∀(a:AT) (d:Int) (x:AT×Int),x∈preA a d->d<=x.2/\x.2<d+((preA a d).length:Int)
 | .mk p n ks,d,x,h=>by
   rw[preA]at h⊢;rw[au];rcases aD.1 h with rfl|h
   .simp only;omega
   .have:=yt ks (d+1) x h;omega
theorem yt:∀(l:List AT) (d:Int) (x:AT×Int),x∈preL l d->d<=x.2/\x.2<d+((preL l d).length:Int)
 |[],d,x,h=>by rw[preL]at h;cases h
 |a::l,d,x,h=>by
  rw[preL]at h⊢;rw[ac];rcases List.mem_append.1 h with h|h
  .have:=m8 a d x h;omega
  .have:=yt l d x h;omega
end
theorem ki(a:AT)(d:Int):0<(preA a d).length:=by rw[B9];exact Nat.succ_pos _
theorem qt(d:Int):∀l:List AT,l.length<=(preL l d).length
 |[]=>Nat.zero_le _
 |a::l=>by
  have h1:=qt d l;have h2:=ki a d;rw[preL,ac,au];omega
theorem Bv(ts:List (AT×Int)):ts.length<=(remA ts).length:=by
 show ts.length<=(ts.reverse.flatMap λx=>preA x.1 x.2).length;have e:ts.reverse.length=ts.length:=List.length_reverse;rw[<-e];generalize ts.reverse=l
 induction l with
 |nil=>exact Nat.zero_le _
 |cons a l ih=>
  have h2:=ki a.1 a.2;rw[List.flatMap_cons,ac,au];omega
def topA(ts:List (AT×Int)):AT×Int:=lget ts ((ts.length:Int)-1)
def lowA(ts:List (AT×Int)):List (AT×Int):=List.take (Int.toNat ((ts.length:Int)-1)) ts
theorem Eo{ts:List (AT×Int)}(h:0<(ts.length:Int)):ts=lowA ts++[topA ts]:=by
 have h0:=dG (L:=ts) (i:=(ts.length:Int)-1) bj bj;have e:Int.toNat ((ts.length:Int)-1)+1=ts.length:=by omega
 have h1:ts.take (Int.toNat ((ts.length:Int)-1)+1)=lowA ts++[topA ts]:=by
  rw[List.take_add_one,h0];rfl
 rw[e,List.take_length]at h1;exact h1
structure WalkI(a:AT)(j:Int)(ts:List (AT×Int)):Prop where
 a:remA ts=(preA a 1).drop j.toNat
structure InI(a:AT)(j:Int)(ts:List (AT×Int))(ix:Int)(us:List (AT×Int)):Prop where
 a:preL (topA ts).1.kids ((topA ts).2+1)++remA (lowA ts)=(preA a 1).drop (j+1).toNat
 b:remA us=preL ((topA ts).1.kids.drop (ix+1).toNat) ((topA ts).2+1)++remA (lowA ts)
section
variable {a:AT}{j ix:Int}{ts us:List (AT×Int)}
theorem rf:WalkI a 0 [(a,1)]:=⟨by simp[remA]⟩
theorem kO(w:WalkI a j ts)(h0:0<=j)(h1:j<=((preA a 1).length:Int))(h:¬0<(ts.length:Int)):j=((preA a 1).length:Int):=by
 have e:ts=[]:=List.length_eq_zero_iff.1 bj;have h2:=w.a;rw[e,EU]at h2;have h3:=congrArg List.length h2;rw[aR,aw]at h3;omega
theorem oz(w:WalkI a j ts)(h:0<(ts.length:Int)):(preA a 1).drop j.toNat=topA ts::(preL (topA ts).1.kids ((topA ts).2+1)++remA (lowA ts)):=by
 have e:=w.a;have e2:remA ts=remA (lowA ts++[((topA ts).1,(topA ts).2)]):=congrArg remA (Eo h);rw[<-e,e2,tF,B9,List.cons_append]
theorem jk(w:WalkI a j ts)(h0:0<=j)(h:0<(ts.length:Int)):j<((preA a 1).length:Int):=by
 have h2:=congrArg List.length (oz w h);rw[aR,au]at h2;omega
theorem sa(w:WalkI a j ts)(h0:0<=j)(h:0<(ts.length:Int)):lget (preA a 1) j=lget ts ((ts.length:Int)-1):=by
 have h2:=congrArg (λl=>l[0]?) (oz w h);have h3:=dG (L:=preA a 1) h0 (jk w h0 h);simp only[List.getElem?_drop,Nat.add_zero,List.getElem?_cons_zero]at h2;rw[h3]at h2;exact ab h2
theorem jH(w:WalkI a j ts)(h0:0<=j)(h:0<(ts.length:Int)):([oneS (lget (preA a 1) j).1.p,iV (lget (preA a 1) j).2]:List SV)=[oneS (lget ts ((ts.length:Int)-1)).1.p,iV (lget ts ((ts.length:Int)-1)).2]:=by rw[sa w h0 h]
theorem nM{Γ:Glob}(w:WalkI a j ts)(h0:0<=j)(h:0<(ts.length:Int)):[atA Γ (lget (preA a 1) j).1]=[atA Γ (lget ts ((ts.length:Int)-1)).1]:=by rw[sa w h0 h]
theorem kP(w:WalkI a j ts)(h0:0<=j)(h:0<(ts.length:Int)):1<=(lget ts ((ts.length:Int)-1)).2/\(lget ts ((ts.length:Int)-1)).2<=((preA a 1).length:Int):=by
 have h1:=fz (L:=preA a 1) h0 (jk w h0 h);rw[sa w h0 h]at h1;have:=m8 a 1 _ h1;omega
theorem Cl(w:WalkI a j ts)(h0:0<=j)(h:0<(ts.length:Int)):preL (topA ts).1.kids ((topA ts).2+1)++remA (lowA ts)=(preA a 1).drop (j+1).toNat:=by
 have h2:=congrArg List.tail (oz w h);rw[List.tail_cons,List.tail_drop,show j.toNat+1=(j+1).toNat by omega]at h2;exact h2.symm
theorem jI(w:WalkI a j ts)(h0:0<=j)(h:0<(ts.length:Int)):(((lget ts ((ts.length:Int)-1)).1.kids).length:Int)<=((preA a 1).length:Int)/\((lowA ts).length:Int)<=((preA a 1).length:Int)-(j+1):=by
 have h2:=congrArg List.length (Cl w h0 h);have h3:=qt ((topA ts).2+1) (topA ts).1.kids;have h4:=Bv (lowA ts);rw[ac,aR]at h2;have h5:=jk w h0 h;refine⟨?_,?_⟩
 .show(((topA ts).1.kids).length:Int)<=_;omega
 .omega
theorem GT(w:WalkI a j ts)(h0:0<=j)(h:0<(ts.length:Int)):InI a j ts ((((lget ts ((ts.length:Int)-1)).1.kids).length:Int)-1) (List.take (Int.toNat ((ts.length:Int)-1)) ts):=by
 refine⟨Cl w h0 h,?_⟩;have e:(topA ts).1.kids.drop (((((topA ts).1.kids).length:Int)-1)+1).toNat=[]:=List.drop_eq_nil_of_le bj;show remA (lowA ts)=preL ((topA ts).1.kids.drop (((((topA ts).1.kids).length:Int)-1)+1).toNat) _++_;rw[e,preL,List.nil_append]
theorem jG(w:InI a j ts ix us)(h0:0<=j)(h1:j<((preA a 1).length:Int)):(us.length:Int)<=((preA a 1).length:Int)-(j+1):=by
 have h2:=Bv us;have h3:(preL ((topA ts).1.kids.drop (ix+1).toNat) ((topA ts).2+1)).length<=(preL (topA ts).1.kids ((topA ts).2+1)).length:=by
  have e:preL (topA ts).1.kids ((topA ts).2+1)=preL ((topA ts).1.kids.take (ix+1).toNat++(topA ts).1.kids.drop (ix+1).toNat) ((topA ts).2+1):=by rw[List.take_append_drop]
  rw[e,oo,oo,List.flatMap_append,ac];omega
 have h4:=congrArg List.length w.a;rw[ac,aR]at h4;rw[w.b,ac]at h2;omega
theorem gQ(w:InI a j ts ix us)(h0:0<=ix)(h1:ix<(((lget ts ((ts.length:Int)-1)).1.kids).length:Int)):InI a j ts (ix-1) (us++[(lget (lget ts ((ts.length:Int)-1)).1.kids ix,(lget ts ((ts.length:Int)-1)).2+1)]):=by
 refine⟨w.a,?_⟩;have h2:=dG (L:=(topA ts).1.kids) h0 h1;have h3:(topA ts).1.kids.drop (ix-1+1).toNat=lget (topA ts).1.kids ix::(topA ts).1.kids.drop (ix+1).toNat:=by
  rw[show(ix-1+1).toNat=ix.toNat by omega,show(ix+1).toNat=ix.toNat+1 by omega];obtain⟨hl,he⟩:=List.getElem?_eq_some_iff.1 h2;rw[List.drop_eq_getElem_cons hl,he]
 rw[h3,preL,tF,w.b,aC];rfl
theorem rR(w:InI a j ts ix us)(h0:¬0<=ix)(h1: -1<=ix):WalkI a (j+1) us:=by
 refine⟨?_⟩;rw[<-w.a,w.b,show(ix+1).toNat=0 by omega,List.drop_zero]
end
abbrev LR(Γ:Glob)(p:SV):TG:=λl Zq vq hq=>∃C:Nat,(True)/\vq=.func (.func 95) [] [.ptr C 0]/\St Zq (own C (.cells [(oneS p)] 144)::l) hq
theorem N3(p:SV)(hs:St Z0 (l) h):RC Γ Z0 58 [(oneS p)] h (LR Γ p l):=by
 refine bL Tryz.f58 Tryz.func58 [.raw 0] [] ⟨0,0,0,1,0,0⟩ (va {r:=[p]}) (.new<|.ret (.fn 95 [] [.ptr 0 0]) [.blk 0 [.raw 0] 144]) hs ?_;refine bA λbk0=>?_;exact an λh hs=>⟨bk0,by first|trivial|omega|(and_intros<;>intros<;>and_intros<;>first|trivial|omega|assumption|exact V1),rfl,hs⟩
theorem MT(C:Nat)(a:AT)(hk:((preA a 1).length:Int)<=1900000){Z0:Hp}{B:Nat}{J0:Asrt}{J:Nat->Asrt}{Q:Asrt}(h0:∀Z l h,St Z ([]++J0::l) h->St Z (J 0::l) h)(hr:my Tryz.prog Γ B ((preA a 1).length) (λ(k:Nat) (_:SV)=>[(oneS ((lget (preA a 1) (k:Int)).1.p)),iV ((lget (preA a 1) (k:Int)).2)]) (λ(k:Nat) (_:SV)=>[atA Γ (lget (preA a 1) (k:Int)).1]) J Q)(bk2:Nat)(stk:SV)(ts:List (AT×Int))(j:Int)(bk3:Nat)(L102:SV)(v105:Bool){l:List Asrt}(om0_1:Nat)(oih0_1:∀(Z:Hp) (stk:SV) (ts:List (AT×Int)) (j:Int) (hi:0<=j/\j<=((preA a 1).length:Int)/\(ts.length:Int)<=((preA a 1).length:Int)-j/\WalkI a j ts) (hm:(((preA a 1).length:Int)-j).toNat<om0_1),den (fnC Tryz.prog Γ Tryz.f95 2 [] (d4 Z0::l) (dz Z0 (λZ _ h=>St Z ([own C (.cells [(oneS a.p)] 144),atA Γ a]++J ((preA a 1).length)::l) h\/St Z ([own C (.cells [(oneS a.p)] 144),atA Γ a]++Q::l) h))) (.stop [0,1] zh3 zh2) ⟨0,0,0,2,3,9⟩ (va {r:=[a.p,stk],n:=[B,C,bk2],a:=[atA Γ a,J0,lsA 181 2 stE (.slice bk2 0 1 1) [(a,1)],iC Γ [(a,1)],atA Γ a,jz J 0,lsA 181 2 stE (oneS stk) ts,iC Γ ts,jz J j]}) Z)(ohm0_1:(((preA a 1).length:Int)-j).toNat<om0_1+1):∀(m:Nat) (Z:Hp) (stk:SV) (ix:Int) (us:List (AT×Int)) (hi:0<=j/\j<((preA a 1).length:Int)/\1<=(lget ts ((ts.length:Int)-1)).2/\(lget ts ((ts.length:Int)-1)).2<=1900000/\ -1<=ix/\ix<((lget ts ((ts.length:Int)-1)).1.kids.length:Int)/\((lget ts ((ts.length:Int)-1)).1.kids.length:Int)<=1900000/\(us.length:Int)<=((preA a 1).length:Int)-(j+1)/\InI a j ts ix us) (hm:(ix+1).toNat<m),den (fnC Tryz.prog Γ Tryz.f95 2 [] (d4 Z0::l) (dz Z0 (λZ _ h=>St Z ([own C (.cells [(oneS a.p)] 144),atA Γ a]++J ((preA a 1).length)::l) h\/St Z ([own C (.cells [(oneS a.p)] 144),atA Γ a]++Q::l) h))) (.stop [0,1,1,1,1,1,0,1,0,0,1] zh1 zh0) ⟨20,2,6,7,4,20⟩ (va {i:=[(ts.length:Int),(ts.length:Int),(((lget ts ((ts.length:Int)-1))).2),(ts.length:Int),(((lget ts ((ts.length:Int)-1)).1).nd.k),(((lget ts ((ts.length:Int)-1)).1).nd.v0),(((lget ts ((ts.length:Int)-1)).1).nd.v1),(((lget ts ((ts.length:Int)-1)).1).nd.v2),(((lget ts ((ts.length:Int)-1)).1).nd.v5),(((lget ts ((ts.length:Int)-1)).1).nd.a0),(((lget ts ((ts.length:Int)-1)).1).nd.a1),(((lget ts ((ts.length:Int)-1)).1).nd.a2),(((lget ts ((ts.length:Int)-1)).1).nd.a3),(((lget ts ((ts.length:Int)-1)).1).nd.b0),(((lget ts ((ts.length:Int)-1)).1).nd.b1),(((lget ts ((ts.length:Int)-1)).1).nd.b2),(((lget ts ((ts.length:Int)-1)).1).nd.b3),(((lget ts ((ts.length:Int)-1)).1).nd.rows),((((lget ts ((ts.length:Int)-1)).1).kids).length:Int),ix],t:=[(((lget ts ((ts.length:Int)-1)).1).nd.v3),(((lget ts ((ts.length:Int)-1)).1).nd.name)],b:=[(((lget ts ((ts.length:Int)-1)).1).nd.v4),(((lget ts ((ts.length:Int)-1)).1).nd.a4),(((lget ts ((ts.length:Int)-1)).1).nd.a5),(((lget ts ((ts.length:Int)-1)).1).nd.b4),(((lget ts ((ts.length:Int)-1)).1).nd.b5),v105],r:=[a.p,stk,(elP (oneS stk) (Int.toNat ((ts.length:Int)-1)*2)),(((lget ts ((ts.length:Int)-1))).1.p),(tkP (oneS stk) (Int.toNat ((ts.length:Int)-1))),L102,stk],n:=[B,C,bk2,bk3],a:=[atA Γ a,J0,lsA 181 2 stE (.slice bk2 0 1 1) [(a,1)],iC Γ [(a,1)],atA Γ a,jz J 0,lsA 181 2 stE (oneS stk) ts,iC Γ ts,jz J j,lsA 181 2 stE (oneS (tkP (oneS stk) (Int.toNat ((ts.length:Int)-1)))) (List.take (Int.toNat ((ts.length:Int)-1)) ts),atA Γ ((lget ts ((ts.length:Int)-1)).1),iC Γ ts,atA Γ ((lget ts ((ts.length:Int)-1)).1),Ai Γ (oneS L102) ((lget ts ((ts.length:Int)-1)).1).kids,yA v105 (jz J (j+1)) Q,jz J (j+1),iC Γ (List.take (Int.toNat ((ts.length:Int)-1)) ts),lsA 181 2 stE (oneS stk) us,iC Γ us,jz J (j+1)]}) Z:=by
 intro m
 induction m with
 |zero=>intros;omega
 |succ m ih=>
  intro Z stk ix us hi hm;refine cZ [0,1,1,1,1,1,0,1,0,0,1] zh1 zh0 [] ⟨20,2,6,7,4,20⟩ (.fork (.le (.z 0) (.v 19)) (.row (.idxA 83 (.raw 5) (vI 19)) [.asr 13] (.raw 7) ⟨20,2,6,8,4,20⟩<|.swap [] [.asr 20] ⟨20,2,6,8,4,21⟩<|.vc (xI (.add (.v 2) (.z 1)))<|.new<|.eff (.app [182,182] (.raw 6) (.slice 4 0 1 1)) [.asr 17,.blk 4 [.raw 7,I (.add (.v 2) (.z 1))] 181] (.raw 8) [.asr 21] ⟨20,2,6,9,5,22⟩<|.vc (xI (.sub (.v 19) (.z 1)))<|.swap [.asr 18,.asr 20] [.asr 22] ⟨20,2,6,9,5,23⟩<|.stop [0,1,1,1,1,1,0,1,0,0,1] [(0,.yield 0),(3,.raw 8),(4,.ptr 3 0),(5,.raw 5),(6,I (.sub (.v 19) (.z 1)))] [.asr 22,.asr 19,.asr 13,.asr 21,.blk 3 [.raw 3,vI 2] 181,.asr 4,.blk 1 [.raw 0] 144])<|.stop [0,1] [(0,.yield 0),(3,.raw 6)] [.asr 19,.asr 18,.asr 4,.asr 17,.blk 1 [.raw 0] 144]) 100000 bm (λ_ h=>by cases h) ?_;refine bo (0<=ix) rfl (λcd1=>?_) λcd1=>?_
  .refine dD {r:=[((lget (((lget ts ((ts.length:Int)-1)).1).kids) ix).p)]} (AtAt Γ Z (lget (((lget ts ((ts.length:Int)-1)).1).kids) ix)) (λl h hs=>I9 (m:=l) (h:=h) (i:=ix) Kh0 Kh0 hs) λkd200=>?_;refine dsU {a:=[atA Γ (lget (((lget ts ((ts.length:Int)-1)).1).kids) ix)]} (λl h hs=>zS kd200 (hs) (m:=l) (h:=h)) ?_;refine bE (show I6 ((((lget ts ((ts.length:Int)-1))).2)+1)from Kh0) ?_;refine bA λbk4=>?_;refine dJ (λ(v202:SV)=>{r:=[v202],a:=[lsA 181 2 stE (oneS v202) (us++[((lget (((lget ts ((ts.length:Int)-1)).1).kids) ix),((((lget ts ((ts.length:Int)-1))).2)+1))])]}) (λ_=>True) (λl h hs=>iu (m:=l) (h:=h) rfl Hu (by decide) hs (by first|rfl|first|exact byE_wr _|exact mu bj bj) rfl (by first|rfl|exact(H2 (((lget (((lget ts ((ts.length:Int)-1)).1).kids) ix),((((lget ts ((ts.length:Int)-1))).2)+1)))).2) Kh0) λv202 _=>?_;refine bE (show I6 (ix-1)from Kh0) ?_;refine dsU {a:=[iC Γ (us++[((lget (((lget ts ((ts.length:Int)-1)).1).kids) ix),((((lget ts ((ts.length:Int)-1))).2)+1))])]} (λl h hs=>Gq (hs) (m:=l) (h:=h)) ?_;exact bu (ih _ v202 (ix-1) (us++[((lget (((lget ts ((ts.length:Int)-1)).1).kids) ix),((((lget ts ((ts.length:Int)-1))).2)+1))]) Kh0 Kh0) rfl rfl
  .exact bu (oih0_1 _ stk us (j+1) Kh0 Kh0) rfl rfl
theorem LK(C:Nat)(a:AT)(hk:((preA a 1).length:Int)<=1900000){Z0:Hp}{B:Nat}{J0:Asrt}{J:Nat->Asrt}{Q:Asrt}(h0:∀Z l h,St Z ([]++J0::l) h->St Z (J 0::l) h)(hr:my Tryz.prog Γ B ((preA a 1).length) (λ(k:Nat) (_:SV)=>[(oneS ((lget (preA a 1) (k:Int)).1.p)),iV ((lget (preA a 1) (k:Int)).2)]) (λ(k:Nat) (_:SV)=>[atA Γ (lget (preA a 1) (k:Int)).1]) J Q)(bk2:Nat){l:List Asrt}:∀(m:Nat) (Z:Hp) (stk:SV) (ts:List (AT×Int)) (j:Int) (hi:0<=j/\j<=((preA a 1).length:Int)/\(ts.length:Int)<=((preA a 1).length:Int)-j/\WalkI a j ts) (hm:(((preA a 1).length:Int)-j).toNat<m),den (fnC Tryz.prog Γ Tryz.f95 2 [] (d4 Z0::l) (dz Z0 (λZ _ h=>St Z ([own C (.cells [(oneS a.p)] 144),atA Γ a]++J ((preA a 1).length)::l) h\/St Z ([own C (.cells [(oneS a.p)] 144),atA Γ a]++Q::l) h))) (.stop [0,1] zh3 zh2) ⟨0,0,0,2,3,9⟩ (va {r:=[a.p,stk],n:=[B,C,bk2],a:=[atA Γ a,J0,lsA 181 2 stE (.slice bk2 0 1 1) [(a,1)],iC Γ [(a,1)],atA Γ a,jz J 0,lsA 181 2 stE (oneS stk) ts,iC Γ ts,jz J j]}) Z:=by
 intro m
 induction m with
 |zero=>intros;omega
 |succ m ih=>
  intro Z stk ts j hi hm;refine cZ [0,1] zh3 zh2 [] ⟨0,0,0,2,3,9⟩ (.row (.len 182 (.raw 1)) [.asr 6] (vI 0) ⟨1,0,0,2,3,9⟩<|.fork (.lt (.z 0) (.v 0)) (.row (.len 182 (.raw 1)) [.asr 6] (vI 1) ⟨2,0,0,2,3,9⟩<|.vc (xI (.sub (.v 1) (.z 1)))<|.row (.idxA 182 (.raw 1) (I (.sub (.v 1) (.z 1)))) [.asr 6] (.raw 2) ⟨2,0,0,3,3,9⟩<|.row (.load 181 (.raw 2)) [.asr 6] (.agg [.raw 3,vI 2]) ⟨3,0,0,4,3,9⟩<|.new<|.row (.len 182 (.raw 1)) [.asr 6] (vI 3) ⟨4,0,0,4,4,9⟩<|.vc (xI (.sub (.v 3) (.z 1)))<|.row (.slc 182 (.raw 1) none (some (I (.sub (.v 3) (.z 1))))) [.asr 6] (.raw 4) ⟨4,0,0,5,4,9⟩<|.swap [.asr 6] [.asr 9] ⟨4,0,0,5,4,10⟩<|.swap [.asr 7] [.asr 10,.asr 11] ⟨4,0,0,5,4,12⟩<|.swap [.asr 10] [.asr 12] ⟨4,0,0,5,4,13⟩<|.win 3 (nX 4 0 0 (.raw 5)) ⟨18,2,5,6,4,13⟩<|.swap [] [.asr 13] ⟨18,2,5,6,4,14⟩<|.round 0 [.raw 3,vI 2] [.asr 12,.asr 8] (vB 5) [.asr 14] ⟨18,2,6,6,4,15⟩<|.fork (.bv 5) (.swap [.asr 14] [.asr 15] ⟨18,2,6,6,4,16⟩<|.row (.len 83 (.raw 5)) [.asr 13] (vI 18) ⟨19,2,6,6,4,16⟩<|.vc (xI (.sub (.v 18) (.z 1)))<|.swap [.asr 11] [.asr 16] ⟨19,2,6,6,4,17⟩<|.stop [0,1,1,1,1,1,0,1,0,0,1] [(0,.yield 0),(3,.raw 4),(4,.ptr 3 0),(5,.raw 5),(6,I (.sub (.v 18) (.z 1)))] [.asr 16,.asr 15,.asr 13,.asr 9,.blk 3 [.raw 3,vI 2] 181,.asr 4,.blk 1 [.raw 0] 144])<|.swap [.asr 14] [.asr 15] ⟨18,2,6,6,4,16⟩<|.ret (.tup []) [.blk 1 [.raw 0] 144,.asr 4,.asr 15])<|.ret (.tup []) [.blk 1 [.raw 0] 144,.asr 4,.asr 8]) 100000 bm (λ_ h=>by cases h) ?_;refine drT {i:=[(ts.length:Int)]} (λl h hs=>eD (m:=l) (h:=h) rfl (λ_=>rfl) hs) ?_;refine bo (0<(ts.length:Int)) rfl (λcd1=>?_) λcd1=>?_
  .refine drT {i:=[(ts.length:Int)]} (λl h hs=>eD (m:=l) (h:=h) rfl (λ_=>rfl) hs) ?_;refine bE (show I6 ((ts.length:Int)-1)from Kh0) ?_;refine drT {r:=[(elP (oneS stk) (Int.toNat ((ts.length:Int)-1)*2))]} (λl h hs=>ga (m:=l) (h:=h) (i:=((ts.length:Int)-1)) rfl rfl hs Kh0 Kh0) ?_;refine drT {i:=[(((lget ts ((ts.length:Int)-1))).2)],r:=[(((lget ts ((ts.length:Int)-1))).1.p)]} (λl h hs=>ky (m:=l) (h:=h) (i:=((ts.length:Int)-1)) rfl rfl hs Kh0 Kh0) ?_;refine bA λbk3=>?_;refine drT {i:=[(ts.length:Int)]} (λl h hs=>eD (m:=l) (h:=h) rfl (λ_=>rfl) hs) ?_;refine bE (show I6 ((ts.length:Int)-1)from Kh0) ?_;refine drT {r:=[(tkP (oneS stk) (Int.toNat ((ts.length:Int)-1)))]} (λl h hs=>Fa (m:=l) (h:=h) (n:=((ts.length:Int)-1)) rfl rfl hs Kh0 Kh0 Kh0) ?_;refine dsU {a:=[lsA 181 2 stE (oneS (tkP (oneS stk) (Int.toNat ((ts.length:Int)-1)))) (List.take (Int.toNat ((ts.length:Int)-1)) ts)]} (λl h hs=>KA Kh0 (hs) (m:=l) (h:=h)) ?_;refine dsU {a:=[atA Γ ((lget ts ((ts.length:Int)-1)).1),iC Γ ts]} (λl h hs=>Nl (ts:=ts) (i:=((ts.length:Int)-1)) Kh0 Kh0 (hs) (m:=l) (h:=h)) ?_;refine bQ (α:=Unit) (λ(_:Unit)=>{a:=[atA Γ ((lget ts ((ts.length:Int)-1)).1)]}) (λ(_:Unit)=>AtAt Γ Z ((lget ts ((ts.length:Int)-1)).1)) (λl h hs=>⟨(),Cw (hs) (m:=l) (h:=h)⟩) λ_ qs103=>?_;obtain⟨L102,wu102,ku102⟩:=EJ qs103;refine fk {i:=[(((lget ts ((ts.length:Int)-1)).1).nd.k),(((lget ts ((ts.length:Int)-1)).1).nd.v0),(((lget ts ((ts.length:Int)-1)).1).nd.v1),(((lget ts ((ts.length:Int)-1)).1).nd.v2),(((lget ts ((ts.length:Int)-1)).1).nd.v5),(((lget ts ((ts.length:Int)-1)).1).nd.a0),(((lget ts ((ts.length:Int)-1)).1).nd.a1),(((lget ts ((ts.length:Int)-1)).1).nd.a2),(((lget ts ((ts.length:Int)-1)).1).nd.a3),(((lget ts ((ts.length:Int)-1)).1).nd.b0),(((lget ts ((ts.length:Int)-1)).1).nd.b1),(((lget ts ((ts.length:Int)-1)).1).nd.b2),(((lget ts ((ts.length:Int)-1)).1).nd.b3),(((lget ts ((ts.length:Int)-1)).1).nd.rows)],t:=[(((lget ts ((ts.length:Int)-1)).1).nd.v3),(((lget ts ((ts.length:Int)-1)).1).nd.name)],b:=[(((lget ts ((ts.length:Int)-1)).1).nd.v4),(((lget ts ((ts.length:Int)-1)).1).nd.a4),(((lget ts ((ts.length:Int)-1)).1).nd.a5),(((lget ts ((ts.length:Int)-1)).1).nd.b4),(((lget ts ((ts.length:Int)-1)).1).nd.b5)],r:=[L102]} wu102 ?_;refine dsU {a:=[Ai Γ (oneS L102) ((lget ts ((ts.length:Int)-1)).1).kids]} (λl h hs=>BQ ku102 (hs) (m:=l) (h:=h)) ?_;refine pQ (λ(v105:Bool)=>{b:=[v105],a:=[yA v105 (jz J (j+1)) Q]}) (λ_=>True) (λl h hs=>lG (gs:=[atA Γ ((lget ts ((ts.length:Int)-1)).1)]) (rv:=(.lit .nilIface)) hr (x:=j) Kh0 Kh0 (by have e0:=Int.toNat_of_nonneg (show(0:Int)<=j from Kh0);first|(simp only[e0];done)|(simp only[e0];rfl)|(simp only[e0];first|omega|(and_intros<;>intros<;>and_intros<;>first|omega|assumption|exact rf|(have w1:=ki a 1;simp only[au,aw];omega)|exact GT hi.2.2.2 bj bj|exact jH hi.2.2.2 bj bj|exact nM hi.2.2.2 bj bj|exact gQ hi.2.2.2.2.2.2.2.2 bj bj|exact rR hi.2.2.2.2.2.2.2.2 bj bj|(have w1:=jk hi.2.2.2 bj bj;have w2:=kP hi.2.2.2 bj bj;have w3:=jI hi.2.2.2 bj bj;simp only[lowA]at w3;omega)|(have w1:=kO hi.2.2.2 bj bj bj;omega)|(have w1:=jG hi.2.2.2.2.2.2.2.2 bj bj;simp only[ac,au,aw];omega)|(have w1:=jG (gQ hi.2.2.2.2.2.2.2.2 bj bj) bj bj;simp only[ac,au,aw]at*;omega)|exact V1))) (by first|rfl|(simp only[Int.toNat_of_nonneg (show(0:Int)<=j from by first|omega|(and_intros<;>intros<;>and_intros<;>first|omega|assumption|exact rf|(have w1:=ki a 1;simp only[au,aw];omega)|exact GT hi.2.2.2 bj bj|exact jH hi.2.2.2 bj bj|exact nM hi.2.2.2 bj bj|exact gQ hi.2.2.2.2.2.2.2.2 bj bj|exact rR hi.2.2.2.2.2.2.2.2 bj bj|(have w1:=jk hi.2.2.2 bj bj;have w2:=kP hi.2.2.2 bj bj;have w3:=jI hi.2.2.2 bj bj;simp only[lowA]at w3;omega)|(have w1:=kO hi.2.2.2 bj bj bj;omega)|(have w1:=jG hi.2.2.2.2.2.2.2.2 bj bj;simp only[ac,au,aw];omega)|(have w1:=jG (gQ hi.2.2.2.2.2.2.2.2 bj bj) bj bj;simp only[ac,au,aw]at*;omega)|exact V1))];done)|(simp only[Int.toNat_of_nonneg (show(0:Int)<=j from by first|omega|(and_intros<;>intros<;>and_intros<;>first|omega|assumption|exact rf|(have w1:=ki a 1;simp only[au,aw];omega)|exact GT hi.2.2.2 bj bj|exact jH hi.2.2.2 bj bj|exact nM hi.2.2.2 bj bj|exact gQ hi.2.2.2.2.2.2.2.2 bj bj|exact rR hi.2.2.2.2.2.2.2.2 bj bj|(have w1:=jk hi.2.2.2 bj bj;have w2:=kP hi.2.2.2 bj bj;have w3:=jI hi.2.2.2 bj bj;simp only[lowA]at w3;omega)|(have w1:=kO hi.2.2.2 bj bj bj;omega)|(have w1:=jG hi.2.2.2.2.2.2.2.2 bj bj;simp only[ac,au,aw];omega)|(have w1:=jG (gQ hi.2.2.2.2.2.2.2.2 bj bj) bj bj;simp only[ac,au,aw]at*;omega)|exact V1))];first|omega|(and_intros<;>intros<;>and_intros<;>first|omega|assumption|exact rf|(have w1:=ki a 1;simp only[au,aw];omega)|exact GT hi.2.2.2 bj bj|exact jH hi.2.2.2 bj bj|exact nM hi.2.2.2 bj bj|exact gQ hi.2.2.2.2.2.2.2.2 bj bj|exact rR hi.2.2.2.2.2.2.2.2 bj bj|(have w1:=jk hi.2.2.2 bj bj;have w2:=kP hi.2.2.2 bj bj;have w3:=jI hi.2.2.2 bj bj;simp only[lowA]at w3;omega)|(have w1:=kO hi.2.2.2 bj bj bj;omega)|(have w1:=jG hi.2.2.2.2.2.2.2.2 bj bj;simp only[ac,au,aw];omega)|(have w1:=jG (gQ hi.2.2.2.2.2.2.2.2 bj bj) bj bj;simp only[ac,au,aw]at*;omega)|exact V1))) hs) λZ v105 _=>?_;refine bo (v105=true) rfl (λcd2=>?_) λcd2=>?_
   .refine dsU {a:=[jz J (j+1)]} (λl h hs=>EA cd2 (hs) (l:=l) (h:=h)) ?_;refine drT {i:=[((((lget ts ((ts.length:Int)-1)).1).kids).length:Int)]} (λl h hs=>vm (m:=l) (h:=h) hs) ?_;refine bE (show I6 (((((lget ts ((ts.length:Int)-1)).1).kids).length:Int)-1)from Kh0) ?_;refine dsU {a:=[iC Γ (List.take (Int.toNat ((ts.length:Int)-1)) ts)]} (λl h hs=>GX (hs) (m:=l) (h:=h)) ?_;exact bu (MT Γ C a hk h0 hr bk2 stk ts j bk3 L102 v105 m ih hm _ _ (tkP (oneS stk) (Int.toNat ((ts.length:Int)-1))) (((((lget ts ((ts.length:Int)-1)).1).kids).length:Int)-1) (List.take (Int.toNat ((ts.length:Int)-1)) ts) Kh0 (aq _)) rfl rfl
   .refine dsU {a:=[Q]} (λl h hs=>C9 cd2 (hs) (l:=l) (h:=h)) ?_;exact an λh hs=>.inr hs
  .exact an λh hs=>.inl (wz (la:=[own C (.cells [(oneS a.p)] 144),atA Γ a]) Kh0 hs)
theorem OZ(C:Nat)(a:AT)(hk:((preA a 1).length:Int)<=1900000):zO Tryz.prog Γ 95 [] [.ptr C 0] ((preA a 1).length) (λ(k:Nat) (_:SV)=>[(oneS ((lget (preA a 1) (k:Int)).1.p)),iV ((lget (preA a 1) (k:Int)).2)]) (λ(k:Nat) (_:SV)=>[atA Γ (lget (preA a 1) (k:Int)).1]) [own C (.cells [(oneS a.p)] 144),atA Γ a] []:=by
 intro Z B J0 J Q l h h0 hr hs;refine rZ (Q:=λZ _ h=>St Z ([own C (.cells [(oneS a.p)] 144),atA Γ a]++J ((preA a 1).length)::l) h\/St Z ([own C (.cells [(oneS a.p)] 144),atA Γ a]++Q::l) h) Tryz.f95 Tryz.func95 bm [.yield 0,.ptr 1 0] [.blk 1 [.raw 0] 144,.asr 0,.asr 1] ⟨0,0,0,1,2,2⟩ (va {r:=[a.p],n:=[B,C],a:=[atA Γ a,J0]}) (.new<|.swap [.blk 2 [.raw 0,I (.z 1)] 181] [.asr 2] ⟨0,0,0,1,3,3⟩<|.swap [.asr 0] [.asr 3,.asr 4] ⟨0,0,0,1,3,5⟩<|.swap [.asr 1] [.asr 5] ⟨0,0,0,1,3,6⟩<|.stop [0,1] [(0,.yield 0),(3,.slice 2 0 1 1)] [.asr 5,.asr 3,.asr 4,.asr 2,.blk 1 [.raw 0] 144]) 100000 bm hs rfl ?_;refine bA λbk2=>?_;refine dsU {a:=[lsA 181 2 stE (.slice bk2 0 1 1) [(a,1)]]} (λl h hs=>IY (a:=a) (d:=1) rfl (hs) (m:=l) (h:=h)) ?_;refine dsU {a:=[iC Γ [(a,1)],atA Γ a]} (λl h hs=>Gm (hs) (m:=l) (h:=h)) ?_;refine dsU {a:=[jz J 0]} (λl h hs=>h0 _ _ _ hs) ?_;exact bu (LK Γ C a hk h0 hr bk2 _ _ (.slice bk2 0 1 1) ([(a,1)]) 0 Kh0 (aq _)) (by first|rfl|(simp only[ax,aY,XV.sv,va,Va.ext,fN,List.getD,ei];rfl)) (by first|rfl|(simp only[ei];rfl))
abbrev zi1:List MI:=[.obj 5 (.deferred true),.blk 4 [.raw 2] 144,.asr 3,.asr 4,.asr 2,.blk 3 [vI 14] 3,.blk 2 [vI 15] 3,.blk 1 [vI 16] 24]
abbrev zi2:List MI:=[.asr 5,.asr 4,.asr 2,.blk 3 [vI 14] 3,.blk 2 [vI 15] 3,.blk 1 [vI 16] 24]
abbrev zi3:List (Nat×XV):=[(7,.fn 95 [] [.ptr 4 0]),(1,.ptr 0 0),(2,.ptr 1 0),(3,.ptr 2 0),(4,.ptr 3 0)]
theorem Ki0{P:Prop}(h:P:=by first|omega|exact B0 hi.1 hk|(show(sizeL ks:Int)<=1900000;omega)|first|omega|(and_intros<;>intros<;>and_intros<;>first|omega|assumption|exact hi.1|exact qs2.2|exact S6 _|exact IW hi.2.2.2.2 bj|(have w1:=EZ (List.take k (preA at1 1));have w2:=Pz at1 k;omega)|exact V1)):P:=h
theorem Ki1{P:Prop}(h:P:=by first|(rw[hi.2.1];exact Gx hi.1 hi.2.2)|exact GU hi.1 hi.2.2.1 hi.2.2.2.2 cd1|exact Lf hi.1 hi.2.2.1 hi.2.2.2.2 cd1 cd2|exact Mq hi.1 hi.2.2.1 hi.2.2.2.2 cd1 cd2):P:=h
mutual
def dpT:Tr->Int->Int
 | .mk _ ks,d=>max d (dpL ks (d+1))
def dpL:List Tr->Int->Int
 |[],_=>0
 |t::l,d=>max (dpT t d) (dpL l d)
end
def checkB(t:Tr):Int:=if 256<(sizeL t.kids:Int)+1 then 5 else if 32<dpT t 1 then 8 else if eY t 6 then 0 else 6
def mxD(l:List (AT×Int)):Int:=l.foldl (λm x=>max m x.2) 0
theorem qm(l:List (AT×Int)):∀m:Int,0<=m->l.foldl (λm x=>max m x.2) m=max m (mxD l):=by
 induction l with
 |nil=>intro m h;simp only[List.foldl_nil,mxD];omega
 |cons x l ih=>
  intro m h;have e0:mxD (x::l)=l.foldl (λm x=>max m x.2) (max 0 x.2):=rfl;rw[e0,List.foldl_cons,ih _ bj,ih _ bj];omega
theorem EZ(l:List (AT×Int)):0<=mxD l:=by
 have:=qm l 0 bj;rw[show l.foldl (λm x=>max m x.2) 0=mxD l from rfl]at this;omega
theorem B3(l r:List (AT×Int)):mxD (l++r)=max (mxD l) (mxD r):=by
 show(l++r).foldl (λm x=>max m x.2) 0=_;rw[List.foldl_append];exact qm r (mxD l) (EZ l)
theorem wB(x:AT×Int)(l:List (AT×Int)):mxD (x::l)=max (max 0 x.2) (mxD l):=qm l (max 0 x.2) bj
mutual
theorem s7:∀(a:AT) (d:Int),(preA a d).length=1+sizeL a.tr.kids
 | .mk p x ks,d=>by
   rw[preA,au,tJ ks (d+1)];show _=1+sizeL (trL ks);omega
theorem tJ:∀(l:List AT) (d:Int),(preL l d).length=sizeL (trL l)
 |[],d=>rfl
 | .mk p x ks::l,d=>by
   rw[preL,ac,s7 (.mk p x ks) d,tJ l d];show 1+sizeL (trL ks)+sizeL (trL l)=sizeL (.mk x (trL ks)::trL l);rw[iS,fa];omega
end
mutual
theorem Bs:∀(a:AT) (d:Int),0<=d->mxD (preA a d)=dpT a.tr d
 | .mk p x ks,d,h=>by
   rw[preA,wB,Cp ks (d+1) bj];show max (max 0 d) _=dpT (.mk x (trL ks)) d;rw[dpT];omega
theorem Cp:∀(l:List AT) (d:Int),0<=d->mxD (preL l d)=dpL (trL l) d
 |[],d,h=>rfl
 | .mk p x ks::l,d,h=>by
   rw[preL,B3,Bs (.mk p x ks) d h,Cp l d h];rfl
end
theorem S6(a:AT):(0:Int)=mxD (List.take 0 (preA a 1)):=rfl
theorem IW{a:AT}{k:Nat}{d:Int}(h:d=mxD (List.take k (preA a 1)))(hk:k<(preA a 1).length):max d (lget (preA a 1) (k:Int)).2=mxD (List.take (k+1) (preA a 1)):=by
 have e:=eh (L:=preA a 1) (i:=(k:Int)) bj bj;rw[show((k:Int)+1).toNat=k+1 by omega,Int.toNat_natCast]at e;have h2:=fz (L:=preA a 1) (i:=(k:Int)) bj bj;have h3:=m8 a 1 _ h2;rw[e,B3,h];show max _ _=max _ (max 0 _);omega
theorem Pz(a:AT)(k:Nat):mxD (List.take k (preA a 1))<=((preA a 1).length:Int):=by
 have h:∀l:List (AT×Int),(∀x∈l,x∈preA a 1)->mxD l<=((preA a 1).length:Int):=by
  intro l
  induction l with
  |nil=>intro _;show(0:Int)<=_;omega
  |cons x l ih=>
   intro hx;have h1:=ih λy hy=>hx y (am _ hy);have h2:=m8 a 1 x (hx x (ak ..));rw[wB];omega
 exact h _ λx hx=>List.mem_of_mem_take hx
section
variable {a:AT}{t:Tr}{deep:Int}
theorem lM(ht:a.tr=t):((preA a 1).length:Int)=(sizeL t.kids:Int)+1:=by
 have w:=s7 a 1;rw[ht]at w;omega
theorem B0{x:ND}{ks:List Tr}(ht:a.tr=.mk x ks)(hk:(sizeL ks:Int)<=1800000):((preA a 1).length:Int)<=1900000:=by
 have w:=lM ht;rw[show(Tr.mk x ks).kids=ks from rfl]at w;omega
theorem Gx(ht:a.tr=t)(h:256<((preA a 1).length:Int)):5=checkB t:=by
 rw[lM ht]at h;rw[checkB,bi h]
theorem F7(ht:a.tr=t)(hd:deep=mxD (List.take (preA a 1).length (preA a 1))):dpT t 1=deep:=by
 rw[hd,List.take_length,Bs a 1 bj,ht]
theorem GU(ht:a.tr=t)(h:((preA a 1).length:Int)<=256)(hd:deep=mxD (List.take (preA a 1).length (preA a 1)))(h2:32<deep):8=checkB t:=by
 rw[lM ht]at h;rw[checkB,bh bj,F7 ht hd,bi h2]
theorem Lf(ht:a.tr=t)(h:((preA a 1).length:Int)<=256)(hd:deep=mxD (List.take (preA a 1).length (preA a 1)))(h2:¬32<deep)(h3:¬eY t 6=true):6=checkB t:=by
 rw[lM ht]at h;rw[checkB,bh bj,F7 ht hd,bh h2,bh h3]
theorem Mq(ht:a.tr=t)(h:((preA a 1).length:Int)<=256)(hd:deep=mxD (List.take (preA a 1).length (preA a 1)))(h2:¬32<deep)(h3:eY t 6=true):0=checkB t:=by
 rw[lM ht]at h;rw[checkB,bh bj,F7 ht hd,bh h2,bi h3]
end
abbrev IU(Γ:Glob)(x:ND)(K:SV)(ks:List Tr):TG:=λl Zq vq hq=>∃e:Int,(e=checkB (.mk x ks))/\vq=iV e/\St Zq (br Γ (oneS K) ks::l) hq
noncomputable abbrev Ke(Γ:Glob)(x:ND)(K:SV)(ks:List Tr)(Z0:Hp)(l:List Asrt):Cx:=fnC Tryz.prog Γ Tryz.f57 1 [] (d4 Z0::l) (dz Z0 (IU Γ x K ks l))
theorem MZ(x:ND)(K:SV)(ks:List Tr)(hk:(sizeL ks:Int)<=1800000)(bk0 bk1:Nat)(bk2 bk3 C0:Nat)(at1:AT){Z0 Z:Hp}{l:List Asrt}(deep size er:Int)(hi:at1.tr=Tr.mk x ks/\er=0/\(0:Int)<=256/\size=0/\deep=mxD (List.take 0 (preA at1 1))):den (Ke Γ x K ks Z0 l) (.stop [0,1,0,1,1] zi3 [.blk 4 [.raw 2] 144,.asr 3,.asr 4,.asr 2,.blk 3 [vI 14] 3,.blk 2 [vI 15] 3,.blk 1 [vI 16] 24]) ⟨17,2,5,3,5,5⟩ (va {i:=[x.k,x.v0,x.v1,x.v2,x.v5,x.a0,x.a1,x.a2,x.a3,x.b0,x.b1,x.b2,x.b3,x.rows,deep,size,er],t:=[x.v3,x.name],b:=[x.v4,x.a4,x.a5,x.b4,x.b5],r:=[K,(.ptr bk0 0),at1.p],n:=[bk0,bk1,bk2,bk3,C0],a:=[br Γ (oneS K) ks,bB Γ (.ptr bk0 0) (Tr.mk x ks),br Γ (oneS K) ks,atA Γ at1,bB Γ (.ptr bk0 0) (Tr.mk x ks)]}) Z:=by
 haveI:Mute (Ke Γ x K ks Z0 l).Γ:=(inferInstance:Mute Γ)
 refine jJ (β:=Int×Int×Int) (p:=[0,1,0,1,1]) (la:=[own C0 (.cells [(oneS at1.p)] 144),atA Γ at1]) (lb:=[]) rfl bm 7 (.fn 95 [] [.ptr 4 0]) bm rfl (OZ Γ C0 at1 Ki0) [bB Γ (.ptr bk0 0) (Tr.mk x ks),br Γ (oneS K) ks,own bk3 (.cells [iV deep] 3),own bk2 (.cells [iV size] 3),own bk1 (.cells [iV er] 24)] (λ(⟨deep,size,er⟩:Int×Int×Int)=>[bB Γ (.ptr bk0 0) (Tr.mk x ks),br Γ (oneS K) ks,own bk3 (.cells [iV deep] 3),own bk2 (.cells [iV size] 3),own bk1 (.cells [iV er] 24)]) (λ(k:Nat) (⟨deep,size,er⟩:Int×Int×Int)=>at1.tr=Tr.mk x ks/\er=0/\(k:Int)<=256/\size=k/\deep=mxD (List.take k (preA at1 1))) .ret rfl (λ(⟨deep,size,er⟩:Int×Int×Int)=>[bB Γ (.ptr bk0 0) (Tr.mk x ks),br Γ (oneS K) ks,own bk3 (.cells [iV deep] 3),own bk2 (.cells [iV size] 3),own bk1 (.cells [iV er] 24)]) (λ(⟨deep,size,er⟩:Int×Int×Int)=>at1.tr=Tr.mk x ks/\er=5/\256<((preA at1 1).length:Int)) (λ_ _ s=>s) (λ_ _ _ s=>⟨(deep,size,er),hi,s⟩) ?_ ?_ ?_
 .intro k hk rv ⟨deep,size,er⟩ hi Z B l tm hs;refine lp (fr:=zi3) (c:=⟨18,2,5,4,5,6⟩) (ρ:=va {i:=[x.k,x.v0,x.v1,x.v2,x.v5,x.a0,x.a1,x.a2,x.a3,x.b0,x.b1,x.b2,x.b3,x.rows,deep,size,er,((lget (preA at1 1) (k:Int)).2)],t:=[x.v3,x.name],b:=[x.v4,x.a4,x.a5,x.b4,x.b5],r:=[K,(.ptr bk0 0),at1.p,((lget (preA at1 1) (k:Int)).1.p)],n:=[bk0,bk1,bk2,bk3,C0],a:=[br Γ (oneS K) ks,bB Γ (.ptr bk0 0) (Tr.mk x ks),br Γ (oneS K) ks,atA Γ at1,bB Γ (.ptr bk0 0) (Tr.mk x ks),atA Γ (lget (preA at1 1) (k:Int)).1]}) [.raw 3,vI 17] (mem:=zi2) (win:=[]) (N:=100000) (ta:=.fin .normal [(2,.ptr 1 0),(3,.ptr 2 0),(4,.ptr 3 0),(6,vI 17)] zi2) bm (λ_ h=>by cases h) rfl bm bm (by rfl) hs rfl ?_;refine yu (win:=[]) (tb:=.vc (xI (.add (.v 15) (.z 1)))<|.fork (.lt (.z 256) (.add (.v 15) (.z 1))) (.fin .ret [] [.asr 4,.asr 2,.blk 3 [vI 14] 3,.blk 2 [I (.add (.v 15) (.z 1))] 3,.blk 1 [I (.z 5)] 24])<|.row (.mx #[3,3] [vI 14,vI 17]) [] (vI 18) ⟨19,2,5,4,5,6⟩<|.fin .normal [] [.asr 4,.asr 2,.blk 3 [vI 18] 3,.blk 2 [I (.add (.v 15) (.z 1))] 3,.blk 1 [vI 16] 24]) (N:=100000) bm (λ_ h=>by cases h) λl=>?_;refine bE (show I6 (size+1)from Ki0) ?_;refine bo (256<(size+1)) rfl (λcd1=>?_) λcd1=>?_
  .exact OY (deep,(size+1),5) Ki0 rfl
  .refine iQ {i:=[(max deep ((lget (preA at1 1) (k:Int)).2))]} (λ_=>NE _ _) ?_;exact nS ((max deep ((lget (preA at1 1) (k:Int)).2)),(size+1),er) Ki0 rfl
 .intro Z ⟨deep,size,er⟩ hi dm5;refine sZ (C:=Ke Γ x K ks Z0 l) jY (N:=100000) (fr':=zi3) (mem:=zi1) (win:=[]) (c:=⟨17,2,5,3,6,5⟩) (mks:=[5]) (t:=.fork (.lt (.z 32) (.v 14)) (.ret (I (.z 8)) [.asr 2])<|.call 94 [.ptr 0 0,Tz] [.asr 4] (vB 5) [.asr 5] ⟨17,2,6,3,6,6⟩<|.fork (.bv 5) (.ret (Fd) [.asr 2])<|.ret (Tz) [.asr 2]) (va {i:=[x.k,x.v0,x.v1,x.v2,x.v5,x.a0,x.a1,x.a2,x.a3,x.b0,x.b1,x.b2,x.b3,x.rows,deep,size,er],t:=[x.v3,x.name],b:=[x.v4,x.a4,x.a5,x.b4,x.b5],r:=[K,(.ptr bk0 0),at1.p],n:=[bk0,bk1,bk2,bk3,C0,dm5],a:=[br Γ (oneS K) ks,bB Γ (.ptr bk0 0) (Tr.mk x ks),br Γ (oneS K) ks,atA Γ at1,bB Γ (.ptr bk0 0) (Tr.mk x ks)]}) bm ((show _=([(7,.func (.func 95) [] [.ptr C0 0]),(1,.ptr bk0 0),(2,.ptr bk1 0),(3,.ptr bk2 0),(4,.ptr bk3 0)]:List (Nat×SV))from rfl).trans (show([(7,.func (.func 95) [] [.ptr C0 0]),(1,.ptr bk0 0),(2,.ptr bk1 0),(3,.ptr bk2 0),(4,.ptr bk3 0)]:List (Nat×SV))=_ from rfl)) rfl rfl (λ_ h=>by cases h) ?_;show den (fnC Tryz.prog Γ Tryz.f57 1 [dm5] (d4 Z0::l) (dz Z0 (IU Γ x K ks l))) _ _ _ _;refine bo (32<deep) rfl (λcd1=>?_) λcd1=>?_
  .exact an λh hs=>⟨8,Ki1,rfl,hs⟩
  .refine dcU {b:=[(eY (Tr.mk x ks) 6)],a:=[bB Γ (.ptr bk0 0) (Tr.mk x ks)]} (λl h hs=>(by have hr:=Tj Γ (.ptr bk0 0) 6 (Tr.mk x ks) Ki0 (Z0:=Z) (l:=l) (h:=h) TP;first|exact hr|(simp only[RC,bN,bP]at hr;exact hr)|(simp only[RC,bN,bP,Mg]at hr;exact hr))) λZ=>?_;refine bo ((eY (Tr.mk x ks) 6)=true) rfl (λcd2=>?_) λcd2=>?_
   .exact an λh hs=>⟨0,Ki1,rfl,hs⟩
   .exact an λh hs=>⟨6,Ki1,rfl,hs⟩
 .intro Z ⟨deep,size,er⟩ hi dm5;refine sZ (C:=Ke Γ x K ks Z0 l) jY (N:=100000) (fr':=zi3) (mem:=zi1) (win:=[]) (c:=⟨17,2,5,3,6,5⟩) (mks:=[5]) (t:=.ret (vI 16) [.asr 2]) (va {i:=[x.k,x.v0,x.v1,x.v2,x.v5,x.a0,x.a1,x.a2,x.a3,x.b0,x.b1,x.b2,x.b3,x.rows,deep,size,er],t:=[x.v3,x.name],b:=[x.v4,x.a4,x.a5,x.b4,x.b5],r:=[K,(.ptr bk0 0),at1.p],n:=[bk0,bk1,bk2,bk3,C0,dm5],a:=[br Γ (oneS K) ks,bB Γ (.ptr bk0 0) (Tr.mk x ks),br Γ (oneS K) ks,atA Γ at1,bB Γ (.ptr bk0 0) (Tr.mk x ks)]}) bm ((show _=([(7,.func (.func 95) [] [.ptr C0 0]),(1,.ptr bk0 0),(2,.ptr bk1 0),(3,.ptr bk2 0),(4,.ptr bk3 0)]:List (Nat×SV))from rfl).trans (show([(7,.func (.func 95) [] [.ptr C0 0]),(1,.ptr bk0 0),(2,.ptr bk1 0),(3,.ptr bk2 0),(4,.ptr bk3 0)]:List (Nat×SV))=_ from rfl)) rfl rfl (λ_ h=>by cases h) ?_;show den (fnC Tryz.prog Γ Tryz.f57 1 [dm5] (d4 Z0::l) (dz Z0 (IU Γ x K ks l))) _ _ _ _;exact an λh hs=>⟨er,Ki1,rfl,hs⟩
theorem Ij(x:ND)(K:SV)(ks:List Tr)(hk:(sizeL ks:Int)<=1800000)(hs:St Z0 (br Γ (oneS K) ks::l) h):RC Γ Z0 57 [.agg (ndL x (oneS K))] h (IU Γ x K ks l):=by
 refine bL Tryz.f57 Tryz.func57 [.agg TQ] [.asr 0] ⟨14,2,5,1,0,1⟩ (va {TD x K with a:=[br Γ (oneS K) ks]}) (.new<|.new<|.new<|.new<|.call 58 [.ptr 0 0] [] (.fn 95 [] [.ptr 4 0]) [.blk 4 [.raw 1] 144] ⟨14,2,5,2,5,1⟩<|.swap [.blk 0 TQ 85,.asr 0] [.asr 1,.asr 2] ⟨14,2,5,2,5,3⟩<|.swap [.asr 1,.blk 4 [.raw 1] 144] [.asr 3,.blk 4 [.raw 2] 144,.asr 4] ⟨14,2,5,3,5,5⟩<|.stop [0,1,0,1,1] zi3 [.blk 4 [.raw 2] 144,.asr 3,.asr 4,.asr 2,.blk 3 [Fd] 3,.blk 2 [Fd] 3,.blk 1 [.lit (.int .i64 0)] 24]) hs ?_;refine bA λbk0=>?_;refine bA λbk1=>?_;refine bA λbk2=>?_;refine bA λbk3=>?_;refine bS (λ(C0:Nat)=>{r:=[(.ptr bk0 0)],n:=[C0]}) _ (λl h hs=>(by have hr:=N3 Γ (.ptr bk0 0) (Z0:=Z0) (l:=l) (h:=h) TP;first|exact hr|(simp only[RC,bN,bP]at hr;exact hr)|(simp only[RC,bN,bP,LR]at hr;exact hr))) λZ C0 qd0=>?_;refine jt (λ(_:Unit)=>{a:=[bB Γ (.ptr bk0 0) (Tr.mk x ks),br Γ (oneS K) ks]}) (λ(_:Unit)=>True) (λl h hs=>om rfl (hs) (m:=l) (h:=h)) λZ _ _=>?_;refine bQ (α:=AT) (λ(at1:AT)=>{r:=[at1.p],a:=[atA Γ at1,bB Γ (.ptr bk0 0) (Tr.mk x ks)]}) (λ(at1:AT)=>at1.p=(.ptr bk0 0)/\at1.tr=(Tr.mk x ks)) (λl h hs=>HA (hs) (m:=l) (h:=h)) λat1 qs2=>?_;exact bu (MZ Γ x K ks hk bk0 bk1 bk2 bk3 C0 at1 0 0 0 Ki0) rfl rfl
end Go.Proofs.YtbhokokpplmigaaGreatDoor.Sx
