/-
  A part of the proof of FileReads; no condition.
-/
import Derived.Test.YtbhokokpplmigaaGreatDoorEvGA
import Derived.RangeFuncRecord
import Derived.LoopNIn
import Derived.Below
import Derived.ChangeSame
import Derived.Carry
import Derived.ProofKit
import Derived.OpenShut
import Derived.Lib.LaidTab
import Derived.SevenTiedAt
import Derived.Lib.Small
import Derived.Lib.IndexMore
import Derived.Lib.Strings
import Derived.Lib.Join
import Derived.Lib.Replace
import Derived.Lib.ItoaLen
import Derived.Lib.AtoiAll
import Derived.Shelf.GgSortFunc.InsertionK
set_option linter.all false
namespace Go.Proofs.YtbhokokpplmigaaGreatDoor.Ev
open Go Go.RowKit
section
variable {P:Program}{Γ:Env}{X:Nat->Prop}{w0:World}{θ:Ren}{K:Nat->Prop}{h:Hp}{w:World}
theorem Rep.move{b β c:Nat}{o o':AObj}{ob':Obj}(hr:Rep Γ X w0 θ K h w)(hb:h.objs.get b=some o)(hβ:β=h.next)(hok:o'.ok (hJ K β))(hO:ORep (θ.bind β (θ.blk b) c) o' ob'):
 Rep Γ X w0 (θ.bind β (θ.blk b) c) (hJ K β) ⟨(h.objs.put b none).set β o',β+1⟩ (ef w (θ.blk b) ob'):=by
 have hnk:¬K β:=by rw[hβ];exact hr.next _ (av _)
 have hE:Ext K θ (θ.bind β (θ.blk b) c):=Ren.bind_ext hnk;obtain⟨hKb,hXb,_,ob,hw,_⟩:=hr.obj b o hb;have get:∀b' o1,b'≠β->((h.objs.put b none).set β o').get b'=some o1->b'≠b/\h.objs.get b'=some o1:=λb' o1 hne hg=>by
  rw[T.get_set,bh hne,T.get_put]at hg;by_cases e:b'=b
  .rw[bi e]at hg;cases hg
  .rw[bh e]at hg;exact⟨e,hg⟩
 have blk:∀b' o1,h.objs.get b'=some o1->(θ.bind β (θ.blk b) c).blk b'=θ.blk b':=λb' o1 hg=>hE.blk b' (hr.obj b' o1 hg).1;refine⟨hr.os,hr.tape,hr.output,by simpa[ef]using hr.size,λk hk=>?_,hr.low,hr.glob,λb' o1 hb'=>?_,λb1 b2 o1 o2 h1 h2 he=>?_,λi hi=>?_,Γ.ext hr.inv hE bW⟩
 .rw[fj,bh (λe:k=θ.blk b/\_=>hXb (e.1▸hk))];exact hr.kept k hk
 .by_cases e:b'=β
  .subst e;have hb'':((h.objs.put b none).set b' o').get b'=some o1:=hb';rw[T.get_set,bi rfl]at hb'';cases hb'';exact⟨.inr rfl,by rw[Ren.bind_blk];exact hXb,hok,ob',by rw[Ren.bind_blk];exact nN hw,hO⟩
  .obtain⟨hne,hg⟩:=get b' o1 e hb';obtain⟨k1,k2,k3,ob1,k4,k5⟩:=hr.obj b' o1 hg;refine⟨.inl k1,by rw[blk b' o1 hg];exact k2,AObj.ok_mono bW _ k3,ob1,?_,jW hE k3 k5⟩;rw[blk b' o1 hg,fj,bh (λe':θ.blk b'=θ.blk b/\_=>hne (hr.inj b' b o1 o hg hb e'.1))];exact k4
 .by_cases e1:b1=β
  .by_cases e2:b2=β
   .rw[e1,e2]
   .obtain⟨hne,hg⟩:=get b2 o2 e2 h2;rw[e1,Ren.bind_blk,blk b2 o2 hg]at he;exact absurd (hr.inj b2 b o2 o hg hb he.symm) hne
  .obtain⟨hne1,hg1⟩:=get b1 o1 e1 h1;by_cases e2:b2=β
   .rw[e2,Ren.bind_blk,blk b1 o1 hg1]at he;exact absurd (hr.inj b1 b o1 o hg1 hb he) hne1
   .obtain⟨hne2,hg2⟩:=get b2 o2 e2 h2;rw[blk b1 o1 hg1,blk b2 o2 hg2]at he;exact hr.inj b1 b2 o1 o2 hg1 hg2 he
 .have hi':β+1<=i:=hi;rintro(hk|rfl)
  .exact hr.next i bj hk
  .omega
theorem ra{l:List SV}{e:TypeId}{len size:Nat}{ex:List Value}{w1:World}{c:Nat}{fr:Nat×Nat}(hr:Rep Γ X w0 θ K h w)(hl:SV.okL K l)(hlen:l.length=len*size)(hex:ex.length=c*size)
 (h1:w1.os=w.os) (h2:w1.tape=w.tape) (h3:w1.output=w.output) (h4:w1.heap=w.heap.push (.cells (concL θ l++ex).toArray e fr)) (hfr:frOk fr (l.length+ex.length)):
 Rep Γ X w0 (θ.bind h.next w.heap.size c) (hJ K h.next) (dh h l e len size).2 w1/\conc (θ.bind h.next w.heap.size c) (dh h l e len size).1=.slice (some ⟨w.heap.size,0,none⟩) len (len+c)/\(dh h l e len size).1.ok (hJ K h.next):=by
 have hnk:=hr.next h.next (av _);refine⟨hr.make_next (o:=.row l e len h.next size) h1 h2 h3 h4 ⟨qf hl,.inr rfl⟩ ⟨fr,ex,by rw[eV (Ren.bind_ext hnk) l hl],hfr,?_⟩,?_,⟨.inr rfl,.inr rfl⟩⟩
 .rw[Ren.bind_cap,hlen,hex,Nat.add_mul]
 .simp only[dh,conc,Ren.bind_blk,Ren.bind_cap]
theorem fu{size n:Nat}{x:SV}{vs:List SV}(hq:de Γ h size x=some (vs,n))(hr:Rep Γ X w0 θ K h w):
 (Builtin.lenOf (conc θ x)).run P w=.ok n w/\(Builtin.firstCells size n (conc θ x)).run P w=.ok (concL θ vs).toArray w/\SV.okL K vs:=by
 unfold de at hq;split at hq
 .rename_i p c;simp only[a7,ap]at hq;obtain⟨rfl,rfl⟩:=hq;cases p with
  |none=>exact⟨rfl,rfl,trivial⟩
  |some a=>exact⟨rfl,by simp[conc,Builtin.firstCells,loadCells,loadCellsFrom,concL],trivial⟩
 .rename_i s;simp only[a7,ap]at hq;obtain⟨rfl,rfl⟩:=hq;refine⟨rfl,?_,(dQ _ _).2 λv hv=>?_⟩
  .simp only[conc,Builtin.firstCells,ah];congr 1;rw[<-aN];simp[cV,Function.comp,conc]
  .obtain⟨y,_,rfl⟩:=List.mem_map.1 hv;trivial
 .rename_i b off m c;split at hq
  .rename_i us fs hus;simp only[a7,ap]at hq;obtain⟨rfl,rfl⟩:=hq;obtain⟨a,ha,hl⟩:=dS (P:=P) (θ:=θ) hus hr.globW (λf hf=>hr.fact (cI hus f hf));simp only[conc,Value.pointer.injEq,a7]at ha;subst ha;exact⟨rfl,hl,fx hus hr.okAll⟩
  .cases hq
 .rename_i b off m k cv;split at hq
  .rename_i us fs hus;simp only[a7,ap]at hq;obtain⟨rfl,rfl⟩:=hq;obtain⟨a,ha,hl⟩:=dS (P:=P) (θ:=θ) hus hr.globW (λf hf=>hr.fact (cI hus f hf));simp only[conc,Value.pointer.injEq,a7]at ha;subst ha;exact⟨rfl,hl,fx hus hr.okAll⟩
  .cases hq
 .rename_i g off m c;split at hq
  .rename_i us fs hus;simp only[a7,ap]at hq;obtain⟨rfl,rfl⟩:=hq;obtain⟨a,ha,hl⟩:=dS (P:=P) (θ:=θ) hus hr.globW (λf hf=>hr.fact (cI hus f hf));simp only[conc,Value.pointer.injEq,a7]at ha;subst ha;exact⟨rfl,hl,fx hus hr.okAll⟩
  .cases hq
 .cases hq
theorem C6(m:Nat):∀(r c:Nat),Builtin.growBy m r c<=max c (2*m+192):=by
 intro r
 induction r with
 |zero=>intro c;simp only[Builtin.growBy];omega
 |succ r ih=>
  intro c;simp only[Builtin.growBy];split
  .omega
  .have:=ih (c+(c+768)/4);omega
theorem nextslicecap_le{need cap:Nat}(hlt:cap<need):Builtin.nextslicecap need cap<=2*need+192:=by
 unfold Builtin.nextslicecap;split
 .omega
 .split
  .omega
  .have:=C6 need 4 cap;omega
structure Appends(P:Program)(tys:Array TypeId)(args:Array Value)(st xt e:TypeId)(i:TypeInfo)(z:Value)(xd:TypeDesc)(sv xv:Value):Prop where
 t0:tys[0]? =some st
 t1:tys[1]? =some xt
 a0:args[0]? =some sv
 a1:args[1]? =some xv
 us:tyU P st=some (.slice e)
 ux:tyU P xt=some xd
 nint:∀k,xd≠.int k
 info:P.info? e=some i
 zero:i.zero=some z
theorem jl{tys:Array TypeId}{args:Array Value}{st xt e ty:TypeId}{i:TypeInfo}{z:Value}{xd:TypeDesc}{base:Option Addr}{sLen sCap n:Nat}{xv:Value}{news:Array Value}{w':World}
 (ha:Appends P tys args st xt e i z xd (.slice base sLen sCap) xv) (hn:(Builtin.lenOf xv).run P w=.ok n w) (hf:(Builtin.firstCells i.size n xv).run P w=.ok news w) (hle:sLen+n<=sCap)
 (hs:(match base with
  |some a=>storeCells (a.add (sLen*i.size)) news.toList
  |none=>pure ():Sem Unit).run P w=.ok () w'):
 (Builtin.append_ tys ty args).run P w=.ok (.slice base (sLen+n) sCap) w':=by
 have hsize:bI P e=some i.size:=by simp only[bI,ha.info,af]
 have hux:=be ha.ux w;have hnint:=ha.nint;cases base with
 |none=>
  simp only[ah,Result.ok.injEq,true_and]at hs;subst hs;cases xd<;>first
   |exact absurd rfl (hnint _)
   |simp only[Builtin.append_,ha.t0,ha.a0,ha.a1,ae,be ha.us w,Result.andThen,cq hsize w,ha.t1,hux,ah,aA,if_false,hn,hle,if_true,Bool.not_false,hf]
 |some a=>
  simp only at hs;cases xd<;>first
   |exact absurd rfl (hnint _)
   |simp only[Builtin.append_,ha.t0,ha.a0,ha.a1,ae,be ha.us w,Result.andThen,cq hsize w,ha.t1,hux,ah,aA,if_false,hn,hle,if_true,Bool.not_false,hf,hs]
theorem vW{tys:Array TypeId}{args:Array Value}{st xt e ty:TypeId}{i:TypeInfo}{z:Value}{xd:TypeDesc}{base:Option Addr}{sLen sCap n:Nat}{xv:Value}{olds news:Array Value}
 (ha:Appends P tys args st xt e i z xd (.slice base sLen sCap) xv) (hn:(Builtin.lenOf xv).run P w=.ok n w) (hlt:sCap<sLen+n) (hneed:sLen+n<=4000000) (hbytes:i.bytes<=1000)
 (hf:∀w1:World,w1.heap=w.heap->(Builtin.firstCells i.size n xv).run P w1=.ok news w1) (ho:∀w1:World,w1.heap=w.heap->(Builtin.firstCells i.size sLen (.slice base sLen sCap)).run P w1=.ok olds w1):
 ∃(c:Nat) (w':World),(Builtin.append_ tys ty args).run P w=.ok (.slice (some ⟨w.heap.size,0,none⟩) (sLen+n) (sLen+n+c)) w'/\w'.os=w.os/\w'.tape=w.tape/\w'.output=w.output/\
  w'.heap=w.heap.push (.cells (olds++news++Builtin.zeroCells z.cells c) e):=by
 have hsize:bI P e=some i.size:=by simp only[bI,ha.info,af]
 have hzero:dB P e=some z:=by simp only[dB,ha.info,ay,ha.zero]
 have hux:=be ha.ux w;have hnint:=ha.nint;have hnot:¬(sLen+n<=sCap):=by omega
 have c1:¬(((sLen+n:Nat):Int)>IntKind.i64.max/\(False\/i.bytes=0)):=by
  intro hh;have:IntKind.i64.max=9223372036854775807:=by decide
  omega
 have c2:¬(Builtin.nextslicecap (sLen+n) sCap*i.bytes>2^48):=by
  have h1:=nextslicecap_le hlt;have h2:Builtin.nextslicecap (sLen+n) sCap*i.bytes<=(2*(sLen+n)+192)*1000:=Nat.mul_le_mul h1 hbytes;omega
 refine⟨w.tape w.drawn (.appendCap (sLen+n) sCap e)%(2^63-(sLen+n)),{w.drew with heap:=w.heap.push (.cells (olds++news++Builtin.zeroCells z.cells (w.tape w.drawn (.appendCap (sLen+n) sCap e)%(2^63-(sLen+n)))) e)},?_,rfl,rfl,rfl,rfl⟩;have hcut:Question.cut (.appendCap (sLen+n) sCap e) (w.tape w.drawn (.appendCap (sLen+n) sCap e))=sLen+n+w.tape w.drawn (.appendCap (sLen+n) sCap e)%(2^63-(sLen+n)):=rfl;have hfo:Question.forced (.appendCap (sLen+n) sCap e)=false:=rfl;have hi1:=λw1=>iY (P:=P) ha.info w1;have hz1:=λw1=>dj (P:=P) hzero w1;have ho':=ho w.drew rfl;have hf':=hf w.drew rfl;have hsub:sLen+n+w.tape w.drawn (.appendCap (sLen+n) sCap e)%(2^63-(sLen+n))-(sLen+n)=w.tape w.drawn (.appendCap (sLen+n) sCap e)%(2^63-(sLen+n)):=by omega
 cases xd<;>first
  |exact absurd rfl (hnint _)
  |(simp only[Builtin.append_,ha.t0,ha.a0,ha.a1,ae,be ha.us w,Result.andThen,cq hsize w,ha.t1,hux,ah,aA,if_false,hn,hnot,Bool.not_false,if_true,hi1,c1,c2,run_choose,hfo,hcut,World.drew_eq,run_askRoom,ho',hf',hz1,newRow,run_newObj,hsub]
    rfl)
end
section
variable {P:Program}{Γ:Env}{X:Nat->Prop}{w0:World}{θ:Ren}{K:Nat->Prop}{h:Hp}{w:World}
theorem py{size n:Nat}{x:SV}{vs:List SV}(hq:de Γ h size x=some (vs,n))(hr:Rep Γ X w0 θ K h w)(w1:World)(h1:w1.heap=w.heap):
 (Builtin.firstCells size n (conc θ x)).run P w1=.ok (concL θ vs).toArray w1:=by
 have key:Rep Γ X {w0 with os:=w1.os,tape:=w1.tape,output:=w1.output} θ K h w1:=
  ⟨rfl,rfl,rfl,by rw[h1];exact hr.size,λk hk=>by rw[h1];exact hr.kept k hk,hr.low,hr.glob,λb o hb=>by rw[h1];exact hr.obj b o hb,hr.inj,hr.next,Γ.base hr.inv (λ_ h=>h) (λ_ _=>rfl) (av _)⟩
 exact(fu hq key).2.1
theorem AO{p:SV}{n:Nat}{vs:List SV}{fs:List Fact}(hq:bF Γ h p n=some (vs,fs))(hr:Rep Γ X w0 θ K h w)(w1:World)(h1:w1.heap=w.heap):
 ∃a:Addr,conc θ p=.pointer (some a)/\(loadCells a n).run P w1=.ok (concL θ vs).toArray w1:=by
 have key:Rep Γ X {w0 with os:=w1.os,tape:=w1.tape,output:=w1.output} θ K h w1:=
  ⟨rfl,rfl,rfl,by rw[h1];exact hr.size,λk hk=>by rw[h1];exact hr.kept k hk,hr.low,hr.glob,λb o hb=>by rw[h1];exact hr.obj b o hb,hr.inj,hr.next,Γ.base hr.inv (λ_ h=>h) (λ_ _=>rfl) (av _)⟩
 exact dS hq key.globW λf hf=>key.fact (cI hq f hf)
theorem nU{p:SV}{n:Nat}{vs:List SV}{fs:List Fact}(hq:bF Γ h p n=some (vs,fs)):vs.length=n:=by
 unfold bF at hq;split at hq
 .split at hq
  .rename_i us hus;simp only[a7,ap]at hq;obtain⟨rfl,rfl⟩:=hq;simp only[aJ]at hus;obtain⟨l,_,hc⟩:=hus;exact(dg hc).2
  .cases hq
 .split at hq
  .rename_i us hus;simp only[a7,ap]at hq;obtain⟨rfl,rfl⟩:=hq;simp only[aJ]at hus;obtain⟨l,_,hc⟩:=hus;exact(dg hc).2
  .cases hq
 .cases hq
theorem se(z:Value)(c:Nat):(Builtin.zeroCells z.cells c).toList.length=c*z.cells.size:=by
 simp[Builtin.zeroCells]
def nR(P:Program)(Γ:Env)(X:Nat->Prop)(w0:World)(θ:Ren)(K:Nat->Prop)(n:Nat)(s:Sem Value)(w:World)(r:SV×Hp):Prop:=
 ∃θ' K' w',Ext K θ θ'/\(∀i,K i->K' i)/\(∀i,K' i->K i\/n<=i)/\s.run P w=.ok (conc θ' r.1) w'/\r.1.ok K'/\Rep Γ X w0 θ' K' r.2 w'
theorem nT{tys:Array TypeId}{args:Array Value}{st xt e ty:TypeId}{i:TypeInfo}{z:Value}{xd:TypeDesc}{base:Option Addr}{sLen sCap n:Nat}{xv:Value}{olds news:List SV}{t:T AObj}
 (hr:Rep Γ X w0 θ K h w) (hsub:∀b o,t.get b=some o->h.objs.get b=some o)
 (ha:Appends P tys args st xt e i z xd (.slice base sLen sCap) xv) (hn:(Builtin.lenOf xv).run P w=.ok n w) (hlt:sCap<sLen+n) (hneed:sLen+n<=4000000) (hbytes:i.bytes<=1000) (hz:z.cells.size=i.size)
 (hf:∀w1:World,w1.heap=w.heap->(Builtin.firstCells i.size n xv).run P w1=.ok (concL θ news).toArray w1)
 (ho:∀w1:World,w1.heap=w.heap->(Builtin.firstCells i.size sLen (.slice base sLen sCap)).run P w1=.ok (concL θ olds).toArray w1)
 (ok1:SV.okL K olds) (ok2:SV.okL K news) (l1:olds.length=sLen*i.size) (l2:news.length=n*i.size):
 nR P Γ X w0 θ K h.next (Builtin.append_ tys ty args) w (dh ⟨t,h.next⟩ (olds++news) e (sLen+n) i.size):=by
 obtain⟨c,w',hrun,g1,g2,g3,g4⟩:=vW (ty:=ty) ha hn hlt hneed hbytes hf ho;have hr':Rep Γ X w0 θ K ⟨t,h.next⟩ w:=hr.fewer hsub;have hheap:w'.heap=w.heap.push (.cells (concL θ (olds++news)++(Builtin.zeroCells z.cells c).toList).toArray e (0,0)):=by
  rw[g4];congr 2;rw[<-aN];simp[eO]
 obtain⟨hrep,hc,hok⟩:=ra (h:=⟨t,h.next⟩) (l:=olds++news) (e:=e) (len:=sLen+n) (size:=i.size) (ex:=(Builtin.zeroCells z.cells c).toList) (c:=c) (fr:=(0,0)) hr'
  (dn ok1 ok2) (by rw[ac,l1,l2,Nat.add_mul]) (by rw[se,hz]) g1 g2 g3 hheap (lK _)
 exact⟨_,_,w',Ren.bind_ext (hr.next _ (av _)),bW,cT,by rw[hc];exact hrun,hok,hrep⟩
theorem sq{tys:Array TypeId}{args:Array Value}{ty:TypeId}{s x:SV}{r:SV×Hp}(hq:cQ P Γ h tys.toList s x=some r)(hr:Rep Γ X w0 θ K h w)(hsok:s.ok K)
 (ha0:args[0]? =some (conc θ s)) (ha1:args[1]? =some (conc θ x)):nR P Γ X w0 θ K h.next (Builtin.append_ tys ty args) w r:=by
 unfold cQ at hq;split at hq
 .rename_i st xt htys;have ht0:tys[0]? =some st:=by rw[<-Array.getElem?_toList,htys];rfl
  have ht1:tys[1]? =some xt:=by rw[<-Array.getElem?_toList,htys];rfl
  split at hq
  .rename_i e xd hus hux;have hnint:∀k,xd≠.int k:=λk he=>by
    subst he;cases hq
   have hni:jB xd=false:=by cases xd<;>first|rfl|exact absurd rfl (hnint _)
   rw[hni]at hq;simp only[bg]at hq;split at hq
   .cases hq
   .rename_i i hinfo;split at hq
    .rename_i z news n hzero hsrc;cases hc:Nat.ble i.bytes 1000&&Nat.ble n 2000000&&Nat.blt 0 i.size&&Nat.beq (SV.cells (.lit z)).length i.size&&Nat.beq news.length (n*i.size)with
     |false=>rw[hc]at hq;cases hq
     |true=>
      rw[hc]at hq;simp only[bf]at hq;simp only[a8]at hc;obtain⟨⟨⟨⟨c1,c2⟩,c3⟩,c4⟩,c5⟩:=hc;have d1:=dy c1;have d2:=dy c2;have d3:=ca c3;have d5:=eq_of_beq c5;have hz:z.cells.size=i.size:=by rw[<-eq_of_beq c4];have:=du θ (.lit z);simp only[conc]at this;rw[this];simp
      obtain⟨hlen,hfirst,hnok⟩:=fu (P:=P) hsrc hr;have hfirst':=λw1 hh=>py (P:=P) hsrc hr w1 hh;have mk:∀base sl sc,conc θ s=.slice base sl sc->Appends P tys args st xt e i z xd (.slice base sl sc) (conc θ x):=λbase sl sc hs=>
       ⟨ht0,ht1,by rw[ha0,hs],ha1,hus,hux,hnint,hinfo,hzero⟩
      split at hq
      .
       have happ:=mk none 0 0 rfl;cases hn0:Nat.beq n 0 with
       |true=>
        rw[hn0]at hq;simp only[bf,a7]at hq;subst hq;have:=eq_of_beq hn0;subst this;exact⟨θ,K,w,Ext.refl _ _,λ_ h=>h,λ_ h=>.inl h,jl (w':=w) happ hlen hfirst (av _) rfl,trivial,hr⟩
       |false=>
        rw[hn0]at hq;simp only[bg,a7]at hq;subst hq;have hne:=ej hn0;have:=nT (ty:=ty) (olds:=[]) (t:=h.objs) hr (λb o hb=>hb) happ hlen bj bj d1 hz hfirst' (λw1 _=>rfl) trivial hnok (by simp) d5
        simpa using this
      .
       rename_i b len k cv;cases hle:Nat.ble len 2000000 with
       |false=>rw[hle]at hq;cases hq
       |true=>
        rw[hle]at hq;have hle':=dy hle;simp only[bf]at hq;split at hq
        .rename_i l e' k' cv' size' hb;cases hcc:Nat.beq cv cv'&&Nat.beq k k'&&Nat.ble len k&&Nat.beq size' i.size&&Nat.beq e e'&&Nat.ble (len*i.size) l.length&&news.all SV.one with
         |false=>rw[hcc]at hq;cases hq
         |true=>
          rw[hcc]at hq;simp only[bf]at hq;simp only[a8]at hcc;obtain⟨⟨⟨⟨⟨⟨f1,f2⟩,f3⟩,f4⟩,f5⟩,f6⟩,f7⟩:=hcc;have:=eq_of_beq f1;subst this;have:=eq_of_beq f2;subst this;have:=eq_of_beq f4;subst this;have:=eq_of_beq f5;subst this;have f3':=dy f3;have f6':=dy f6;have happ:=mk (some ⟨θ.blk b,0,none⟩) len (k+θ.cap cv) rfl;obtain⟨hKb,hXb,hbok,ob,hw,fr,ex,rfl,hfr,hsz⟩:=hr.obj b _ hb;cases hn0:Nat.beq n 0 with
          |true=>
           rw[hn0]at hq;simp only[bf,a7]at hq;subst hq;have:=eq_of_beq hn0;subst this;have hnil:news=[]:=List.eq_nil_of_length_eq_zero bj;subst hnil;exact⟨θ,K,w,Ext.refl _ _,λ_ h=>h,λ_ h=>.inl h,jl (w':=w) happ hlen hfirst bj rfl,hsok,hr⟩
          |false=>
           rw[hn0]at hq;simp only[bg,a7]at hq;subst hq;have hne:=ej hn0;have htake:(l.take (len*i.size)).length=len*i.size:=by rw[aL];omega
           have htok:SV.okL K (l.take (len*i.size)):=fP hbok.1 λv hv=>List.mem_of_mem_take hv;have hct:concL θ (l.take (len*i.size))=(concL θ l).take (len*i.size):=by simp only[cV,List.map_take]
           by_cases hfit:len+n<=k+θ.cap cv
           .
            have htot:len*i.size+n*i.size<=(k+θ.cap cv)*i.size:=by rw[<-Nat.add_mul];exact Nat.mul_le_mul_right _ hfit
            have hst:=fW (P:=P) (off:=len*i.size) (concL θ news) 0 (concL θ l++ex) w hw (by simp only[bH,Nat.add_zero,ac];omega) (by simpa using hfr) (vG f7);simp only[Nat.add_zero,bH]at hst;have hrun:=jl (ty:=ty) happ hlen hfirst hfit (w':=ef w (θ.blk b) (.cells ((concL θ l++ex).take (len*i.size)++concL θ news++(concL θ l++ex).drop (len*i.size+news.length)).toArray e fr)) (by
             simp only[dW,aX];exact hst)
            have hnk:=hr.next h.next (av _);refine⟨θ.bind h.next (θ.blk b) (k+θ.cap cv-(len+n)),hJ K h.next,_,Ren.bind_ext hnk,bW,cT,?_,⟨.inr rfl,.inr rfl⟩,hr.move (o':=.row (l.take (len*i.size)++news) e (len+n) h.next i.size) (ob':=.cells ((concL θ l++ex).take (len*i.size)++concL θ news++(concL θ l++ex).drop (len*i.size+news.length)).toArray e fr) hb rfl ⟨qf (dn htok hnok),.inr rfl⟩ ⟨fr,(concL θ l++ex).drop (len*i.size+news.length),?_,?_,?_⟩⟩
            .rw[hrun];simp only[dh,conc,Ren.bind_blk,Ren.bind_cap];rw[show len+n+(k+θ.cap cv-(len+n))=k+θ.cap cv by omega]
            .rw[eV (Ren.bind_ext hnk) _ (dn htok hnok),eO,hct,List.take_append_of_le_length (by simp only[bH];omega)]
            .have:(l.take (len*i.size)++news).length+((concL θ l++ex).drop (len*i.size+news.length)).length=l.length+ex.length:=by
              simp only[ac,htake,aR,bH];omega
             rw[this];exact hfr
            .rw[Ren.bind_cap,show len+n+(k+θ.cap cv-(len+n))=k+θ.cap cv by omega,<-hsz];simp only[ac,htake,aR,bH];omega
           .
            have hold:∀w1:World,w1.heap=w.heap->(Builtin.firstCells i.size len (.slice (some ⟨θ.blk b,0,none⟩) len (k+θ.cap cv))).run P w1=.ok (concL θ (l.take (len*i.size))).toArray w1:=λw1 hh=>by
             have:=run_loadCells_list (P:=P) w1 ⟨θ.blk b,0,none⟩ (concL θ (l.take (len*i.size))) (λj v hv=>by
              rw[dW,aX,World.cell?];simp only[hh,hw,Option.isSome_none,aA,if_false,aP];have hj:=(List.getElem?_eq_some_iff.1 hv).1;rw[bH,htake]at hj;rw[hct,List.getElem?_take_of_lt hj]at hv;rw[aU (by simp only[bH];omega)];exact hv)
             rw[bH,htake]at this;exact this
            exact nT (ty:=ty) (t:=h.objs.put b none) hr (λb' o hb'=>by
             rw[T.get_put]at hb';by_cases e:b'=b
             .rw[bi e]at hb';cases hb'
             .rw[bh e]at hb';exact hb') happ hlen bj bj d1 hz hfirst' hold htok hnok htake d5
        .cases hq
      .
       rename_i b off len cap;have happ:=mk (some ⟨θ.blk b,off,none⟩) len cap rfl;cases hle:Nat.ble cap 2000000&&Nat.ble len cap with
       |false=>rw[hle]at hq;cases hq
       |true=>
        rw[hle]at hq;simp only[a8]at hle;have hle1:=dy hle.1;have hle2:=dy hle.2;simp only[bf]at hq;cases hfit:Nat.ble (len+n) cap with
        |true=>
         rw[hfit]at hq;have hfit':=dy hfit;simp only[bf]at hq;split at hq
         .rename_i l e' hb;rw[aa]at hq;obtain⟨l',hs,rfl⟩:=hq;obtain⟨o',w',ho',_,hst,hrep⟩:=ec (P:=P) hr hb hs hnok (.inl ⟨e',rfl⟩);rw[ho' e' rfl]at hrep;exact⟨θ,K,w',Ext.refl _ _,λ_ h=>h,λ_ h=>.inl h,jl happ hlen hfirst hfit' (by simp only[dW];exact hst),hsok,hrep⟩
         .cases hq
        |false=>
         rw[hfit]at hq;have hfit':¬(len+n<=cap):=λhle=>by rw[ai hle]at hfit;cases hfit
         simp only[bg]at hq;split at hq
         .rename_i olds fs hrd;simp only[a7]at hq;subst hq;have hold:∀w1:World,w1.heap=w.heap->(Builtin.firstCells i.size len (.slice (some ⟨θ.blk b,off,none⟩) len cap)).run P w1=.ok (concL θ olds).toArray w1:=λw1 hh=>by
           obtain⟨a,ha,hl⟩:=AO (P:=P) hrd hr w1 hh;simp only[conc,Value.pointer.injEq,a7]at ha;subst ha;exact hl
          exact nT (ty:=ty) (t:=h.objs) hr (λb o hb=>hb) happ hlen bj bj d1 hz hfirst' hold (fx hrd hr.okAll) hnok (nU hrd) d5
         .cases hq
      .cases hq
    .cases hq
  .cases hq
 .cases hq
end
section
variable {P:Program}{Γ:Env}{X:Nat->Prop}{w0:World}{θ:Ren}{K:Nat->Prop}{h:Hp}{w:World}
theorem jX{size n m:Nat}{x:SV}{vs:List SV}(hq:de Γ h size x=some (vs,n))(hr:Rep Γ X w0 θ K h w)(hm:m<=n)(hsz:vs.length=n*size):
 (Builtin.firstCells size m (conc θ x)).run P w=.ok (concL θ (vs.take (m*size))).toArray w:=by
 have hmn:m*size<=n*size:=Nat.mul_le_mul_right _ hm;have hct:concL θ (vs.take (m*size))=(concL θ vs).take (m*size):=by simp only[cV,List.map_take]
 unfold de at hq;split at hq
 .rename_i p c;simp only[a7,ap]at hq;obtain⟨rfl,rfl⟩:=hq;rw[List.take_nil];obtain rfl:m=0:=by omega
  cases p with
  |none=>rfl
  |some a=>simp[conc,Builtin.firstCells,loadCells,loadCellsFrom,concL]
 .rename_i s;simp only[a7,ap]at hq;obtain⟨rfl,rfl⟩:=hq;rw[ao,Array.length_toList]at hsz;have hdisj:s.size=0\/size=1:=by
   have e1:s.data.size=s.size:=rfl;rw[e1]at hsz;rcases Nat.eq_zero_or_pos s.size with h0|h0
   .exact .inl h0
   .right;have:s.size*1=s.size*size:=by omega
    exact(Nat.eq_of_mul_eq_mul_left h0 this).symm
  rw[hct];simp only[conc,Builtin.firstCells,ah];congr 1;rw[<-aN];rcases hdisj with h0|rfl
  .have hm0:m=0:=by omega
   subst hm0;simp
  .simp[cV,List.extract_eq_take_drop];rfl
 .rename_i b off k c;split at hq
  .rename_i us fs hus;simp only[a7,ap]at hq;obtain⟨rfl,rfl⟩:=hq;obtain⟨a,ha,_,hc⟩:=eR (θ:=θ) hus hr.globW (λf hf=>hr.fact (cI hus f hf));simp only[conc,Value.pointer.injEq,a7]at ha;subst ha;have:=run_loadCells_list (P:=P) w ⟨θ.blk b,off,none⟩ (concL θ (us.take (m*size))) (λj v hv=>by
    rw[ez,aa]at hv;obtain⟨y,hy,rfl⟩:=hv;have hj:j<m*size:=by
     have:=(List.getElem?_eq_some_iff.1 hy).1;rw[aL]at this;omega
    rw[List.getElem?_take_of_lt hj]at hy;exact hc j y hy)
   rw[bH,aL,Nat.min_eq_left bj]at this;exact this
  .cases hq
 .rename_i b off k kk cv;split at hq
  .rename_i us fs hus;simp only[a7,ap]at hq;obtain⟨rfl,rfl⟩:=hq;obtain⟨a,ha,_,hc⟩:=eR (θ:=θ) hus hr.globW (λf hf=>hr.fact (cI hus f hf));simp only[conc,Value.pointer.injEq,a7]at ha;subst ha;have:=run_loadCells_list (P:=P) w ⟨θ.blk b,off,none⟩ (concL θ (us.take (m*size))) (λj v hv=>by
    rw[ez,aa]at hv;obtain⟨y,hy,rfl⟩:=hv;have hj:j<m*size:=by
     have:=(List.getElem?_eq_some_iff.1 hy).1;rw[aL]at this;omega
    rw[List.getElem?_take_of_lt hj]at hy;exact hc j y hy)
   rw[bH,aL,Nat.min_eq_left bj]at this;exact this
  .cases hq
 .rename_i g off k cc _;split at hq
  .rename_i us fs hus;simp only[a7,ap]at hq;obtain⟨rfl,rfl⟩:=hq;obtain⟨a,ha,_,hc⟩:=eR (θ:=θ) hus hr.globW (λf hf=>hr.fact (cI hus f hf));simp only[conc,Value.pointer.injEq,a7]at ha;subst ha;have:=run_loadCells_list (P:=P) w ⟨g,off,none⟩ (concL θ (us.take (m*size))) (λj v hv=>by
    rw[ez,aa]at hv;obtain⟨y,hy,rfl⟩:=hv;have hj:j<m*size:=by
     have:=(List.getElem?_eq_some_iff.1 hy).1;rw[aL]at this;omega
    rw[List.getElem?_take_of_lt hj]at hy;exact hc j y hy)
   rw[bH,aL,Nat.min_eq_left bj]at this;exact this
  .cases hq
 .cases hq
theorem yr{tys:Array TypeId}{args:Array Value}{ty t:TypeId}{d s:SV}{r:SV×Hp}(hq:qA P Γ h t d s=some r)(hr:Rep Γ X w0 θ K h w)(ht:tys[0]? =some t)
 (ha0:args[0]? =some (conc θ d)) (ha1:args[1]? =some (conc θ s)):nR P Γ X w0 θ K h.next (Builtin.copy_ tys ty args) w r:=by
 unfold qA at hq;split at hq
 .rename_i e hu;split at hq
  .rename_i size hs;split at hq
   .rename_i vs n c hsrc;simp only[a7]at hq;subst hq;obtain⟨hlen,_,_⟩:=fu (P:=P) hsrc hr;have hmin:Nat.min n 0=0:=Nat.min_zero n;have h0:(Builtin.firstCells size 0 (conc θ s)).run P w=.ok #[] w:=by
     unfold de at hsrc;split at hsrc
     .rename_i p c _;cases p with
      |none=>rfl
      |some a=>simp[conc,Builtin.firstCells,loadCells,loadCellsFrom]
     .simp[conc,Builtin.firstCells]
     .simp[conc,Builtin.firstCells,loadCells,loadCellsFrom]
     .simp[conc,Builtin.firstCells,loadCells,loadCellsFrom]
     .simp[conc,Builtin.firstCells,loadCells,loadCellsFrom]
     .cases hsrc
    refine⟨θ,K,w,Ext.refl _ _,λ_ h=>h,λ_ h=>.inl h,?_,trivial,hr⟩;simp only[Builtin.copy_,ht,ha0,ha1,conc,ae,be hu w,Result.andThen,hlen,hmin,cq hs w,h0,ah];rfl
   .rename_i vs n b off dlen c hsrc;split at hq
    .rename_i l e' hb;cases hvl:Nat.beq vs.length (n*size)with
     |false=>rw[hvl]at hq;cases hq
     |true=>
      rw[hvl]at hq;simp only[bf]at hq;rw[aa]at hq;obtain⟨l',hsp,rfl⟩:=hq;obtain⟨hlen,_,hvok⟩:=fu (P:=P) hsrc hr;have hfc:(Builtin.firstCells size (Nat.min n dlen) (conc θ s)).run P w=.ok (concL θ (vs.take (Nat.min n dlen*size))).toArray w:=jX hsrc hr (Nat.min_le_left n dlen) (eq_of_beq hvl);obtain⟨o',w',ho',_,hst,hrep⟩:=ec (P:=P) hr hb hsp (fP hvok λv hv=>List.mem_of_mem_take hv) (.inl ⟨e',rfl⟩);rw[ho' e' rfl]at hrep;refine⟨θ,K,w',Ext.refl _ _,λ_ h=>h,λ_ h=>.inl h,?_,trivial,hrep⟩;simp only[Builtin.copy_,ht,ha0,ha1,conc,ae,be hu w,Result.andThen,hlen,cq hs w,hfc,hst,ah]
    .cases hq
   .rename_i vs n b off dlen kk cv hsrc;split at hq
    .rename_i l e' k' cv' s' hb;cases hvl:Nat.beq vs.length (n*size)with
     |false=>rw[hvl]at hq;cases hq
     |true=>
      rw[hvl]at hq;simp only[bf]at hq;rw[aa]at hq;obtain⟨l',hsp,rfl⟩:=hq;obtain⟨hlen,_,hvok⟩:=fu (P:=P) hsrc hr;have hfc:(Builtin.firstCells size (Nat.min n dlen) (conc θ s)).run P w=.ok (concL θ (vs.take (Nat.min n dlen*size))).toArray w:=jX hsrc hr (Nat.min_le_left n dlen) (eq_of_beq hvl);obtain⟨o',w',_,ho',hst,hrep⟩:=ec (P:=P) hr hb hsp (fP hvok λv hv=>List.mem_of_mem_take hv) (.inr ⟨e',k',cv',s',rfl⟩);rw[ho' e' k' cv' s' rfl]at hrep;refine⟨θ,K,w',Ext.refl _ _,λ_ h=>h,λ_ h=>.inl h,?_,trivial,hrep⟩;simp only[Builtin.copy_,ht,ha0,ha1,conc,ae,be hu w,Result.andThen,hlen,cq hs w,hfc,hst,ah]
    .cases hq
   .cases hq
  .cases hq
 .cases hq
theorem ka{b off:Nat}{o:AObj}{ob:Obj}(hw:w.heap[θ.blk b]? =some ob)(hO:ORep θ o ob)(ho:(∃l e,o=.cells l e)\/(∃l e k cv s,o=.row l e k cv s)):
 ∃w2,(markStringish ⟨θ.blk b,off,none⟩).run P w=.ok () w2/\∃ob',w2=ef w (θ.blk b) ob'/\ORep θ o ob':=by
 have key:∀(c:Array Value) (e:TypeId) (fr:Nat×Nat),ob=.cells c e fr->frOk fr c.size->∃fr':Nat×Nat,frOk fr' c.size/\(markStringish ⟨θ.blk b,off,none⟩).run P w=.ok () (ef w (θ.blk b) (.cells c e fr')):=by
  intro c e fr he hfr;subst he;have hlt:=(Array.getElem?_eq_some_iff.1 hw).1;obtain⟨lo,hi⟩:=fr;refine⟨if lo==hi then(c.size,c.size+1)else(min lo c.size,max hi (c.size+1)),?_,?_⟩
  .by_cases h:lo=hi
   .subst h;simp[frOk]
   .have hne:(lo==hi)=false:=by simpa using h
    rw[hne];rcases hfr with hfr|hfr
    .exact absurd hfr h
    .right;simp only[aA,if_false];exact Nat.le_min.2 ⟨hfr,av _⟩
  .have hshape:w.shape? (θ.blk b)=some (e,c.size):=by simp[World.shape?,hw]
   simp only[markStringish,ae,run_shape,hshape,Result.andThen,run_freeze];congr 1;have:(w.freeze {block:=θ.blk b,off:=c.size} 1).heap=(ef w (θ.blk b) (.cells c e (if lo==hi then(c.size,c.size+1)else(min lo c.size,max hi (c.size+1))))).heap:=Array.ext_getElem? λk=>by
    rw[fj];simp only[World.freeze,Nat.succ_ne_zero,if_false,Array.getElem?_modify];by_cases hk:θ.blk b=k
    .subst hk;rw[bi rfl,bi ⟨rfl,hlt⟩,hw];simp
    .rw[bh hk,bh (λe=>hk e.1.symm)]
   simp only[World.freeze,Nat.succ_ne_zero,if_false,ef]at this⊢;rw[this]
 rcases ho with⟨l,e,rfl⟩|⟨l,e,k,cv,s,rfl⟩
 .obtain⟨fr,rfl,hfr⟩:=hO;obtain⟨fr',h1,h2⟩:=key _ _ _ rfl (by simpa using hfr);exact⟨_,h2,_,rfl,fr',rfl,by simpa using h1⟩
 .obtain⟨fr,ex,rfl,hfr,hsz⟩:=hO;obtain⟨fr',h1,h2⟩:=key _ _ _ rfl (by simpa using hfr);exact⟨_,h2,_,rfl,fr',ex,rfl,by simpa using h1,hsz⟩
theorem u5{s d:TypeId}{x:SV}{r:SV×Hp}(hq:k8 P h s d x=some r)(hr:Rep Γ X w0 θ K h w)(hxok:x.ok K):nR P Γ X w0 θ K h.next (convert s d (conc θ x)) w r:=by
 unfold k8 at hq;split at hq
 .rename_i e t hs hd;split at hq
  .rename_i he;simp only[a7]at hq;subst hq;have hnk:=hr.next h.next (av _)
   let c:=w.tape w.drawn (.appendCap t.size 0 e)%(2^63-t.size)
   let cs:List SV:=t.data.toList.map λb=>.lit (.int .u8 b.toNat)
   let ex:List Value:=List.replicate c (.int .u8 0)
   have hcs:cs.length=t.size:=by simp only[cs,ao,Array.length_toList];rfl
   have hok:SV.okL K cs:=(dQ _ _).2 λv hv=>by obtain⟨y,_,rfl⟩:=List.mem_map.1 hv;trivial
   have harr:(t.data.map λb=>Value.int .u8 b.toNat)++Array.replicate c (.int .u8 0)=(concL θ cs++ex).toArray:=by
    rw[<-aN];simp[cs,ex,cV,Function.comp,conc]
   have hcut:Question.cut (.appendCap t.size 0 e) (w.tape w.drawn (.appendCap t.size 0 e))=t.size+c:=rfl;have hfo:Question.forced (.appendCap t.size 0 e)=false:=rfl
   let w1:World:={w.drew with heap:=w.heap.push (.cells (concL θ cs++ex).toArray e (0,0))}
   let n:=(concL θ cs++ex).length
   have hshape:w1.shape? w.heap.size=some (e,n):=by simp[World.shape?,w1,n]
   let w2:World:={w.drew with heap:=w.heap.push (.cells (concL θ cs++ex).toArray e (n,n+1))}
   have hfz:w1.freeze {block:=w.heap.size,off:=n} 1=w2:=by
    have:(w1.freeze {block:=w.heap.size,off:=n} 1).heap=w2.heap:=Array.ext_getElem? λk=>by
     simp only[World.freeze,Nat.succ_ne_zero,if_false,w1,w2,Array.getElem?_modify,Array.getElem?_push];by_cases hk:k=w.heap.size
     .subst hk;simp
     .rw[bh (λe=>hk e.symm),bh hk,bh hk]
    simp only[World.freeze,Nat.succ_ne_zero,if_false]at this⊢;simp only[w2]at this⊢;rw[this]
   obtain⟨hrep,hc,hok'⟩:=ra (h:=h) (w1:=w2) (l:=cs) (e:=e) (len:=t.size) (size:=1) (ex:=ex) (c:=c) (fr:=(n,n+1)) hr hok (by rw[hcs,Nat.mul_one]) (by simp[ex]) rfl rfl rfl rfl
    (.inr (by simp only[n,ac,bH];exact av _))
   refine⟨_,_,w2,Ren.bind_ext hnk,bW,cT,?_,hok',hrep⟩;rw[hc];simp only[convert,conc,ae,be hs w,be hd w,Result.andThen,be he w,Conv.stringToBytes,run_choose,hfo,aA,if_false,hcut,World.drew_eq,newRow,run_newObj,ah,Nat.add_sub_cancel_left,harr];have hms:(markStringish ⟨w.heap.size,0,none⟩).run P w1=.ok () w2:=by
    simp only[markStringish,ae,run_shape,hshape,Result.andThen,run_freeze,hfz]
   have hms':(markStringish ⟨w.drew.heap.size,0,none⟩).run P {w.drew with heap:=w.drew.heap.push (.cells (concL θ cs++ex).toArray e)}=.ok () w2:=hms;rw[hms'];rfl
  .cases hq
 .rename_i e0 e b off n c hs hd;split at hq
  .rename_i l e' hsd he hb;simp only[a7]at hq;subst hq;have hsd':=eq_of_beq hsd;obtain⟨hKb,_,hok,ob,hw,hO0⟩:=hr.obj b _ hb;obtain⟨w2,hm,ob',rfl,hO⟩:=ka (P:=P) (θ:=θ) (o:=.cells l e') (off:=off) hw hO0 (.inl ⟨l,e',rfl⟩);refine⟨θ,K,_,Ext.refl _ _,λ_ h=>h,λ_ h=>.inl h,?_,hKb,hr.turn hb hok hO⟩;have hbeq:(s==d)=true:=by rw[hsd'];exact BEq.rfl
   simp only[convert,conc,ae,be hs w,be hd w,Result.andThen,be he w,hbeq,hm,ah]
  .rename_i l e' k cv z hsd he hb;simp only[a7]at hq;subst hq;have hsd':=eq_of_beq hsd;obtain⟨hKb,_,hok,ob,hw,hO0⟩:=hr.obj b _ hb;obtain⟨w2,hm,ob',rfl,hO⟩:=ka (P:=P) (θ:=θ) (o:=.row l e' k cv z) (off:=off) hw hO0 (.inr ⟨l,e',k,cv,z,rfl⟩);refine⟨θ,K,_,Ext.refl _ _,λ_ h=>h,λ_ h=>.inl h,?_,hKb,hr.turn hb hok hO⟩;have hbeq:(s==d)=true:=by rw[hsd'];exact BEq.rfl
   simp only[convert,conc,ae,be hs w,be hd w,Result.andThen,be he w,hbeq,hm,ah]
  .cases hq
 .rename_i e0 e b off n k' cv' hs hd;split at hq
  .rename_i l e' hsd he hb;simp only[a7]at hq;subst hq;have hsd':=eq_of_beq hsd;obtain⟨hKb,_,hok,ob,hw,hO0⟩:=hr.obj b _ hb;obtain⟨w2,hm,ob',rfl,hO⟩:=ka (P:=P) (θ:=θ) (o:=.cells l e') (off:=off) hw hO0 (.inl ⟨l,e',rfl⟩);refine⟨θ,K,_,Ext.refl _ _,λ_ h=>h,λ_ h=>.inl h,?_,hxok,hr.turn hb hok hO⟩;have hbeq:(s==d)=true:=by rw[hsd'];exact BEq.rfl
   simp only[convert,conc,ae,be hs w,be hd w,Result.andThen,be he w,hbeq,hm,ah]
  .rename_i l e' k cv z hsd he hb;simp only[a7]at hq;subst hq;have hsd':=eq_of_beq hsd;obtain⟨hKb,_,hok,ob,hw,hO0⟩:=hr.obj b _ hb;obtain⟨w2,hm,ob',rfl,hO⟩:=ka (P:=P) (θ:=θ) (o:=.row l e' k cv z) (off:=off) hw hO0 (.inr ⟨l,e',k,cv,z,rfl⟩);refine⟨θ,K,_,Ext.refl _ _,λ_ h=>h,λ_ h=>.inl h,?_,hxok,hr.turn hb hok hO⟩;have hbeq:(s==d)=true:=by rw[hsd'];exact BEq.rfl
   simp only[convert,conc,ae,be hs w,be hd w,Result.andThen,be he w,hbeq,hm,ah]
  .cases hq
 .cases hq
theorem uI{it:SV}{r:SV×Hp}(hq:kW h it=some r)(hr:Rep Γ X w0 θ K h w):nR P Γ X w0 θ K h.next (Instr.entry (conc θ it)) w r:=by
 unfold kW at hq;split at hq
 .rename_i b;split at hq
  .rename_i m since seen last hb;split at hq
   .rename_i stamp es clock hs hm;cases hc:Nat.beq clock last with
    |false=>rw[hc]at hq;cases hq
    |true=>
     rw[hc]at hq;simp only[bf]at hq;have hcl:=eq_of_beq hc;subst hcl;split at hq
     .rename_i e he;simp only[a7]at hq;subst hq;obtain⟨_,_,_,ob,hw,hO⟩:=hr.obj b _ hb;simp only[ORep,af]at hO;subst hO;obtain⟨hg,_⟩:=hr.other (P:=P) hb hw (λ_ _ _ he=>by cases he);obtain⟨hgm,_⟩:=hr.map (P:=P) hm;have hmok:=hr.okAll m _ hm;have hback:seen.toArray.back?=some stamp:=by rw[<-hs];simp
      have hfind:(es.map (cg θ)).toArray.find? (λx=>x.born==stamp)=some (cg θ e):=by
       rw[List.find?_toArray,List.find?_map];have:((λx:MapEntry=>x.born==stamp)∘cg θ)=λe=>Nat.beq e.2.2 stamp:=by
        funext x;show(x.2.2==stamp)=Nat.beq x.2.2 stamp;rw[Bool.eq_iff_iff];simp[Nat.beq_eq]
       rw[this,he];rfl
      have hin:=List.mem_of_find?_eq_some he;refine⟨θ,K,w,Ext.refl _ _,λ_ h=>h,λ_ h=>.inl h,?_,⟨(hmok e hin).1,(hmok e hin).2,trivial⟩,hr⟩;simp only[Instr.entry,conc,ae,hg,Result.andThen,hback,hgm,bne_self_eq_false,aA,if_false,hfind,ah];rfl
     .cases hq
   .cases hq
  .cases hq
 .cases hq
end
section
variable {P:Program}{Γ:Env}{X:Nat->Prop}{w0:World}{θ:Ren}{K:Nat->Prop}{h:Hp}{w:World}
theorem gW{o:Option (SV×Hp)}{outs:List (SV×Hp)}(hq:val o=some outs):∃r,o=some r/\outs=[r]:=by
 unfold val at hq;rw[aa]at hq;obtain⟨r,hr,he⟩:=hq;exact⟨r,hr,he.symm⟩
theorem ox{o:Option Hp}{outs:List (SV×Hp)}(hq:mi o=some outs):∃r,o=some r/\outs=[(.lit undef,r)]:=by
 unfold mi at hq;rw[aa]at hq;obtain⟨r,hr,he⟩:=hq;exact⟨r,hr,he.symm⟩
theorem tN{o:Option Hp}{outs:List (SV×Hp)}(hq:done o=some outs):∃r,o=some r/\outs=[(.lit (.tuple #[]),r)]:=by
 unfold done at hq;rw[aa]at hq;obtain⟨r,hr,he⟩:=hq;exact⟨r,hr,he.symm⟩
theorem Eff.ofApp{s:Sem Value}{r:SV×Hp}(ha:nR P Γ X w0 θ K h.next s w r):Eff P Γ X w0 θ K h.next (do pure (.value (<-s))) w [r]:=by
 obtain⟨θ',K',w',he,hk,hfresh,hrun,hok,hrep⟩:=ha;exact⟨r,List.mem_singleton.2 rfl,θ',K',w',_,he,hk,hfresh,by simp only[ae,hrun,Result.andThen,ah],.inl rfl,hok,hrep⟩
theorem Eff.ofUnit{s:Sem Unit}{h':Hp}(ha:∃w',s.run P w=.ok () w'/\Rep Γ X w0 θ K h' w'):Eff P Γ X w0 θ K h.next (do s;pure .skip) w [(.lit undef,h')]:=by
 obtain⟨w',hrun,hrep⟩:=ha;exact⟨_,List.mem_singleton.2 rfl,θ,K,w',_,Ext.refl _ _,λ_ h=>h,λ_ h=>.inl h,by simp only[ae,hrun,Result.andThen,ah],.inr ⟨rfl,rfl⟩,trivial,hrep⟩
theorem Eff.ofDone{s:Sem Value}{h':Hp}(ha:∃w',s.run P w=.ok (.tuple #[]) w'/\Rep Γ X w0 θ K h' w'):Eff P Γ X w0 θ K h.next (do pure (.value (<-s))) w [(.lit (.tuple #[]),h')]:=by
 obtain⟨w',hrun,hrep⟩:=ha;exact⟨_,List.mem_singleton.2 rfl,θ,K,w',.value (.tuple #[]),Ext.refl _ _,λ_ h=>h,λ_ h=>.inl h,by simp only[ae,hrun,Result.andThen,ah],.inl rfl,trivial,hrep⟩
theorem r8{args:Array Operand}{x y:Operand}(h:args.toList=[x,y])(f:Operand->Value):(args.map f)[0]? =some (f x)/\(args.map f)[1]? =some (f y):=by
 constructor
 .rw[Array.getElem?_map,<-Array.getElem?_toList,h];rfl
 .rw[Array.getElem?_map,<-Array.getElem?_toList,h];rfl
theorem GN{args:Array Operand}{x:Operand}(h:args.toList=[x])(f:Operand->Value):(args.map f)[0]? =some (f x):=by
 rw[Array.getElem?_map,<-Array.getElem?_toList,h];rfl
theorem jm{ρ:Operand->Value}{o:Oper}{b:Builtin}{args:Array Operand}{tys:Array TypeId}(ho:o.op=.call ⟨.builtin b,args,tys⟩):
 (execOp ρ o)=builtin b tys o.type (args.map λ| .const _=>true|_=>false) (args.map ρ):=by
 simp only[execOp,ho,resolve,invoke];rfl
theorem uX{ρ:Operand->SV}{o:Oper}{outs:List (SV×Hp)}(hq:effect P Γ h ρ o.op=some outs)(hr:Rep Γ X w0 θ K h w)(hρ:∀x∈o.op.operands,(ρ x).ok K):
 Eff P Γ X w0 θ K h.next (execOp (λx=>conc θ (ρ x)) o) w outs:=by
 have hnk:=hr.next h.next (av _);unfold effect at hq;split at hq
 .rename_i t a x ho;obtain⟨h',h1,rfl⟩:=ox hq;simp only[execOp,ho];exact Eff.ofUnit (kz h1 hr (hρ x (by simp[ho,Op.operands])))
 .rename_i e ho;obtain⟨r,h1,rfl⟩:=gW hq;rw[aa]at h1;obtain⟨z,hz,rfl⟩:=h1;simp only[execOp,ho];refine Eff.ofApp ⟨θ.bind h.next w.heap.size 0,hJ K h.next,w.alloc (.cells z.cells e),Ren.bind_ext hnk,bW,cT,?_,.inr rfl,?_⟩
  .rw[pj hz w];simp only[Hp.new,conc,Ren.bind_blk]
  .have:=fE (e:=e) hr (eP (v:=.lit z) (K:=K) trivial);rw[<-du θ (.lit z)]at this;exact this
 .rename_i e x ho;simp only[a7]at hq;subst hq;simp only[execOp,ho];refine Eff.ofApp ⟨θ.bind h.next w.heap.size 0,hJ K h.next,w.alloc (.cells (conc θ (ρ x)).cells e),Ren.bind_ext hnk,bW,cT,?_,.inr rfl,?_⟩
  .simp only[Instr.box,newVar,newRow,ae,run_newObj,Result.andThen,ah,World.alloc_eq,Hp.new,conc,Ren.bind_blk]
  .have:=fE (e:=e) hr (eP (hρ x (by simp[ho,Op.operands])));rw[<-du θ (ρ x)]at this;exact this
 .rename_i t len parts ho;obtain⟨r,h1,rfl⟩:=gW hq;have he:(parts.map λ(x:Nat×Operand)=>(x.1,conc θ (ρ x.2)))=((parts.toList.map λp=>(p.1,ρ p.2)).map λp=>(p.1,conc θ p.2)).toArray:=by
   rw[<-aN];simp
  simp only[execOp,ho];rw[he];refine Eff.ofApp (nK h1 hr λp hp=>?_);obtain⟨q,hq,rfl⟩:=List.mem_map.1 hp;refine hρ _ ?_;simp only[ho,Op.operands,List.mem_toArray,List.mem_map];exact⟨q,hq,rfl⟩
 .rename_i t ho;split at hq
  .rename_i k e hu;simp only[a7]at hq;subst hq;simp only[execOp,ho,Option.map_none];refine Eff.ofApp ⟨θ.bind h.next w.heap.size 0,hJ K h.next,w.alloc (.map #[] 0),Ren.bind_ext hnk,bW,cT,?_,.inr rfl,qW hr⟩;simp only[Instr.makeMap,ae,run_newObj,Result.andThen,ah,World.alloc_eq,Hp.new,conc,Ren.bind_blk]
  .cases hq
 .rename_i t x ho;split at hq
  .rename_i k e ik n hu hx;simp only[a7]at hq;subst hq;simp only[execOp,ho,af,hx,conc];refine Eff.ofApp ⟨θ.bind h.next w.heap.size 0,hJ K h.next,w.alloc (.map #[] 0),Ren.bind_ext hnk,bW,cT,?_,.inr rfl,qW hr⟩;simp only[Instr.makeMap,ae,be hu w,asInt,asIntOf,run_newObj,Result.andThen,ah,World.alloc_eq,Hp.new,conc,Ren.bind_blk]
  .cases hq
 .rename_i t l c ho;obtain⟨r,h1,rfl⟩:=gW hq;simp only[execOp,ho];exact Eff.ofApp (oL h1 hr)
 .rename_i t m k x ho;obtain⟨h',h1,rfl⟩:=ox hq;simp only[execOp,ho];exact Eff.ofUnit (j9 h1 hr (hρ k (by simp[ho,Op.operands])) (hρ x (by simp[ho,Op.operands])))
 .rename_i t m k x ho;obtain⟨h',h1,rfl⟩:=ox hq;simp only[execOp,ho];exact Eff.ofUnit (j9 h1 hr (hρ k (by simp[ho,Op.operands])) (hρ x (by simp[ho,Op.operands])))
 .rename_i t x ho;obtain⟨r,h1,rfl⟩:=gW hq;simp only[execOp,ho];exact Eff.ofApp (uV h1 hr)
 .rename_i it isS ho;obtain⟨r,hm,w',hrun,hok,hrep⟩:=yO (P:=P) (ty:=o.type) hq hr;simp only[execOp,ho];exact⟨r,hm,θ,K,w',_,Ext.refl _ _,λ_ h=>h,λ_ h=>.inl h,by simp only[ae,hrun,Result.andThen,ah],.inl rfl,hok,hrep⟩
 .rename_i it ho;obtain⟨r,h1,rfl⟩:=gW hq;simp only[execOp,ho];exact Eff.ofApp (uI h1 hr)
 .rename_i s d x ho;obtain⟨r,h1,rfl⟩:=gW hq;simp only[execOp,ho];exact Eff.ofApp (u5 h1 hr (hρ x (by simp[ho,Op.operands])))
 .rename_i args tys ho;split at hq
  .rename_i s x hargs;obtain⟨r,h1,rfl⟩:=gW hq;obtain⟨a0,a1⟩:=r8 hargs λx=>conc θ (ρ x);rw[jm ho];simp only[builtin];refine Eff.ofApp (sq h1 hr (hρ s ?_) a0 a1);simp only[ho,Op.operands,Call.operands,Array.mem_append];exact .inr (by rw[<-Array.mem_toList_iff,hargs];exact ak ..)
  .cases hq
 .rename_i args tys ho;split at hq
  .rename_i d s t hargs ht;obtain⟨r,h1,rfl⟩:=gW hq;obtain⟨a0,a1⟩:=r8 hargs λx=>conc θ (ρ x);rw[jm ho];simp only[builtin];exact Eff.ofApp (yr h1 hr ht a0 a1)
  .cases hq
 .rename_i args tys ho;split at hq
  .rename_i m k t hargs ht;obtain⟨h',h1,rfl⟩:=tN hq;obtain⟨a0,a1⟩:=r8 hargs λx=>conc θ (ρ x);rw[jm ho];simp only[builtin];exact Eff.ofDone (sP h1 hr ht a0 a1)
  .cases hq
 .rename_i args tys ho;split at hq
  .rename_i x t hargs ht;obtain⟨h',h1,rfl⟩:=tN hq;have a0:=GN hargs λx=>conc θ (ρ x);rw[jm ho];simp only[builtin];exact Eff.ofDone (ww h1 hr ht a0)
  .cases hq
 .cases hq
theorem vS{ρ:Operand->SV}{o:Oper}{v:SV}{b nx:Nat}{ob:AObj}{hv:Hp}(hq:fF P hv ρ o.op=some (v,b,ob,nx)):
 (b=hv.next/\nx=hv.next+1/\v.ok (·=hv.next)/\(∀K:Nat->Prop,(∀x∈o.op.operands,(ρ x).ok K)->ob.ok K)/\∀(θ:Ren) (w:World),∃ob':Obj,(execOp (λx=>conc θ (ρ x)) o).run P w=.ok (.value (conc (θ.bind hv.next w.heap.size 0) v)) (w.alloc ob')/\ORep θ ob ob')\/
 (nx=hv.next/\v=.lit undef/\∃old,hv.objs.get b=some old/\∀(X:Nat->Prop) (w0:World) (θ:Ren) (K:Nat->Prop) (h:Hp) (w:World),Rep Γ X w0 θ K h w->h.objs.get b=some old->(∀x∈o.op.operands,(ρ x).ok K)->
  ∃w',(execOp (λx=>conc θ (ρ x)) o).run P w=.ok .skip w'/\Rep Γ X w0 θ K (h.upd b ob) w'):=by
 unfold fF at hq;split at hq
 .rename_i e ho;rw[aa]at hq;obtain⟨z,hz,he⟩:=hq;simp only[ap]at he;obtain⟨rfl,rfl,rfl,rfl⟩:=he;refine .inl ⟨rfl,rfl,rfl,λK _=>eP (v:=.lit z) trivial,λθ w=>⟨.cells z.cells e,?_,⟨(0,0),by rw[<-du θ (.lit z)];rfl,lK _⟩⟩⟩;simp only[execOp,ho,ae,pj hz w,Result.andThen,ah,conc,Ren.bind_blk]
 .rename_i e x ho;simp only[a7,ap]at hq;obtain⟨rfl,rfl,rfl,rfl⟩:=hq;refine .inl ⟨rfl,rfl,rfl,λK hρ=>eP (hρ x (by simp[ho,Op.operands])),λθ w=>⟨.cells (conc θ (ρ x)).cells e,?_,⟨(0,0),by rw[du θ (ρ x)],lK _⟩⟩⟩;simp only[execOp,ho,Instr.box,newVar,newRow,ae,run_newObj,Result.andThen,ah,World.alloc_eq,conc,Ren.bind_blk]
 .rename_i t ho;split at hq
  .rename_i k e hu;simp only[a7,ap]at hq;obtain⟨rfl,rfl,rfl,rfl⟩:=hq;refine .inl ⟨rfl,rfl,rfl,λK _ e he=>(by cases he),λθ w=>⟨.map #[] 0,?_,rfl⟩⟩;simp only[execOp,ho,Option.map_none,Instr.makeMap,ae,run_newObj,Result.andThen,ah,World.alloc_eq,conc,Ren.bind_blk]
  .cases hq
 .rename_i t x ho;split at hq
  .rename_i k e ik n hu hx;simp only[a7,ap]at hq;obtain⟨rfl,rfl,rfl,rfl⟩:=hq;refine .inl ⟨rfl,rfl,rfl,λK _ e he=>(by cases he),λθ w=>⟨.map #[] 0,?_,rfl⟩⟩;simp only[execOp,ho,af,hx,Instr.makeMap,ae,be hu w,asInt,asIntOf,run_newObj,Result.andThen,ah,World.alloc_eq,conc,Ren.bind_blk]
  .cases hq
 .rename_i t a x ho;split at hq
  .rename_i n b' off hn ha;cases hbe:Nat.beq (ρ x).cells.length n with
   |false=>rw[hbe]at hq;cases hq
   |true=>
    rw[hbe]at hq;simp only[bf]at hq;split at hq
    .rename_i l e hb;rw[aa]at hq;obtain⟨l',hs,he⟩:=hq;simp only[ap]at he;obtain⟨rfl,rfl,rfl,rfl⟩:=he;refine .inr ⟨rfl,rfl,_,hb,λX w0 θ K h w hr hb' hok=>?_⟩;have hse:dA P h t (ρ a) (ρ x)=some (h.upd b' (.cells l' e)):=by
      simp only[dA,hn,ha,hbe,bf,hb',hs,af]
     obtain⟨w',hrun,hrep⟩:=kz hse hr (hok x (by simp[ho,Op.operands]));exact⟨w',by simp only[execOp,ho,ae,hrun,Result.andThen,ah],hrep⟩
    .rename_i l e k cv s hb;rw[aa]at hq;obtain⟨l',hs,he⟩:=hq;simp only[ap]at he;obtain⟨rfl,rfl,rfl,rfl⟩:=he;refine .inr ⟨rfl,rfl,_,hb,λX w0 θ K h w hr hb' hok=>?_⟩;have hse:dA P h t (ρ a) (ρ x)=some (h.upd b' (.row l' e k cv s)):=by
      simp only[dA,hn,ha,hbe,bf,hb',hs,af]
     obtain⟨w',hrun,hrep⟩:=kz hse hr (hok x (by simp[ho,Op.operands]));exact⟨w',by simp only[execOp,ho,ae,hrun,Result.andThen,ah],hrep⟩
    .cases hq
  .cases hq
 .cases hq
end
def ed(P:Program):Prop:=∀(f:Nat) (fn:Func),P.funcs[f]? =some fn->(fn.name== "runtime.NumGoroutine")=false
def G(r:Option Nat):Fence:={Fence.wide with round:=r}
theorem uK(r:Option Nat)(f:FuncId):(G r).fn f:=trivial
theorem pZ(r:Option Nat)(n:Nat):(G r).depth.isSome=true->1<=n:=λh=>by cases h
def SExit.conc:SExit->Exit
 | .normal=>.normal
 | .exit id=>.exit id
 | .ret=>.ret
structure Grow(K:Nat->Prop)(θ:Ren)(n:Nat)(K':Nat->Prop)(θ':Ren)(n':Nat):Prop where
 ext:Ext K θ θ'
 mono:∀i,K i->K' i
 fresh:∀i,K' i->K i\/n<=i
 le:n<=n'
theorem Grow.refl(K:Nat->Prop)(θ:Ren)(n:Nat):Grow K θ n K θ n:=⟨Ext.refl _ _,λ_ h=>h,λ_ h=>.inl h,av _⟩
theorem Grow.trans{K K' K'':Nat->Prop}{θ θ' θ'':Ren}{n n' n'':Nat}(h:Grow K θ n K' θ' n')(h':Grow K' θ' n' K'' θ'' n''):Grow K θ n K'' θ'' n'':=
 ⟨h.ext.trans h.mono h'.ext,λi hi=>h'.mono i (h.mono i hi),λi hi=>(h'.fresh i hi).elim (h.fresh i) λhle=>.inr (Nat.le_trans h.le hle),Nat.le_trans h.le h'.le⟩
section
variable (P:Program)(Γ:Env)
def Post(X:Nat->Prop)(w0:World)(θ:Ren)(K:Nat->Prop)(n:Nat)(outs:List Out)(e:Exit)(a:Act)(w:World):Prop:=
 ∃o∈outs,∃(θ':Ren) (K':Nat->Prop),Grow K θ n K' θ' o.hp.next/\e=o.exit.conc/\Rep Γ X w0 θ' K' o.hp w/\FRep θ' K' o.fr a
def CPost(X:Nat->Prop)(w0:World)(θ:Ren)(K:Nat->Prop)(n:Nat)(outs:List Out)(e:Ending)(w:World):Prop:=
 ∃o∈outs,∃(θ':Ren) (K':Nat->Prop),Grow K θ n K' θ' o.hp.next/\e=.returned (conc θ' o.v)/\o.v.ok K'/\Rep Γ X w0 θ' K' o.hp w
structure Sound(run1:Task->R):Prop where
 code:∀c ro fr hp outs,run1 (.code c ro fr hp)=some outs->∀X w0 θ K a w,Rep Γ X w0 θ K hp w->FRep θ K fr a->(∀l,ro=some l->K l)->c.wpIn (G (ro.map θ.blk)) 0 P (Post Γ X w0 θ K hp.next outs) a w
 call:∀f args hp outs,run1 (.call f args hp)=some outs->(∃fn c,P.funcs[f]? =some fn/\fn.body=some c)/\
  ∀X w0 θ K w,Rep Γ X w0 θ K hp w->SV.okL K args->CallsIn Fence.wide 0 P f (concL θ args).toArray w (CPost Γ X w0 θ K hp.next outs)
 round:∀b args hp outs,run1 (.round b args hp)=some outs->∀X w0 θ K w,Rep Γ X w0 θ K hp w->SV.okL K args->
  ∃l f tmps assign body,(Instr.yield (θ.blk b) (concL θ args).toArray).run P w=.ok (.round l f tmps assign body) w/\RoundIn Fence.wide 0 P l f tmps assign body w (CPost Γ X w0 θ K hp.next outs)
end
theorem Post.trans{Γ:Env}{X:Nat->Prop}{w0:World}{θ θ':Ren}{K K':Nat->Prop}{n n':Nat}{outs outs':List Out}{e:Exit}{a:Act}{w:World}(hG:Grow K θ n K' θ' n')(hs:∀o∈outs,o∈outs')(h:Post Γ X w0 θ' K' n' outs e a w):
 Post Γ X w0 θ K n outs' e a w:=by
 obtain⟨o,ho,θ2,K2,h1,h3⟩:=h;exact⟨o,hs o ho,θ2,K2,hG.trans h1,h3⟩
theorem qM{F:Fence}{n:Nat}{P:Program}{o:Oper}{a:Act}{w:World}{N N':Act->World->Prop}{Q Q':Exit->Act->World->Prop}(h:∀a w,N a w->N' a w)(hQ:∀e a w,Q e a w->Q' e a w)
 (hh:o.wpIn F n P a w N Q):o.wpIn F n P a w N' Q':=by
 have lets:LetsOut Q->LetsOut Q':=λ⟨a,w,hq⟩=>⟨a,w,hQ _ _ _ hq⟩;unfold Oper.wpIn at*;refine⟨hh.1,?_⟩;have hh:=hh.2;generalize(o.semAt F.round a.eval).run P w=r at*;cases r with
 |ok x w'=>
  cases x<;>simp only[Oper.uponIn]at hh⊢ <;>
   first
    |exact h _ _ hh
    |exact⟨hh.1,CallsIn.mono hh.2 (λe w'' he=>by cases e<;>first|exact h _ _ he|exact hQ _ _ _ he|exact lets he)⟩
    |exact⟨hh.1,RowsIn.mono hh.2 (λ_ _ he=>h _ _ he)⟩
    |exact⟨hh.1,RoundIn.mono hh.2 (λe w'' he=>by cases e<;>first|exact h _ _ he|exact hQ _ _ _ he|exact lets he)⟩
 |halt x w'=>cases x<;>simp only[Oper.uponIn]at hh⊢ <;>exact hQ _ _ _ hh
theorem vR{F:Fence}{n:Nat}{P:Program}{ops:Array Oper}{Q Q':Exit->Act->World->Prop}(hQ:∀e a w,Q e a w->Q' e a w):∀(l:List Nat) (a:Act) (w:World),wpOpsIn F n P ops Q l a w->wpOpsIn F n P ops Q' l a w:=by
 intro l
 induction l with
 |nil=>intro a w h;exact hQ _ _ _ h
 |cons i l ih=>
  intro a w h;simp only[wpOpsIn]at h⊢;split at h
  .exact ih a w h
  .split at h
   .rename_i hw;simp only[hw,if_true];exact qM ih hQ h
   .rename_i hw;simp only[hw];exact⟨h.1,ih _ _ h.2⟩
theorem fA{α β:Type}{f:α->Option (List β)}:∀{l:List α} {r:List β},ew f l=some r->∀a∈l,∃x,f a=some x/\∀y∈x,y∈r:=by
 intro l
 induction l with
 |nil=>intro r _ a ha;cases ha
 |cons b l ih=>
  intro r h a ha;simp only[ew]at h;split at h
  .rename_i x y hx hy;simp only[a7]at h;subst h;rcases aD.1 ha with rfl|ha
   .exact⟨x,hx,λz hz=>aK _ hz⟩
   .obtain⟨u,hu,hm⟩:=ih hy a ha;exact⟨u,hu,λz hz=>aO _ (hm z hz)⟩
  .cases h
section
variable {P:Program}{Γ:Env}{X:Nat->Prop}{w0:World}{θ:Ren}{K:Nat->Prop}{h:Hp}{w:World}{self:Task->R}
def pK(θ:Ren)(K:Nat->Prop)(fr:Fr)(a:Act)(o:Oper):Prop:=∀x∈o.op.operands,a.eval x=conc θ (fr.ev x)/\(fr.ev x).ok K
theorem FRep.agree{fr:Fr}{a:Act}(hf:FRep θ K fr a)(o:Oper):pK θ K fr a o:=λx _=>⟨hf.ev x,hf.evOk x⟩
theorem eM{fr:Fr}{a:Act}{o:Oper}(hs:isSelect o.op=false)(ha:pK θ K fr a o):execOp a.eval o=execOp (λx=>conc θ (fr.ev x)) o:=
 execOp_congr o (λcs b he=>by rw[he]at hs;cases hs) λx hx=>(ha x hx).1
theorem fe{r:Option Nat}{a:Act}{o:Oper}(hd:isDefer o.op=false):o.semAt r a.eval=execOp a.eval o:=
 Oper.semAt_eq r a.eval o λc he=>by rw[he]at hd;cases hd
theorem re{ρ:Operand->SV}{op:Op}{v:SV}{fs:List Fact}(hq:quiet P Γ h ρ op=some (v,fs)):isSelect op=false/\isDefer op=false:=by
 cases op<;>first|exact⟨rfl,rfl⟩|(simp only[quiet]at hq;cases hq)
theorem xK{ρ:Operand->SV}{op:Op}{outs:List (SV×Hp)}(hq:effect P Γ h ρ op=some outs):isSelect op=false/\isDefer op=false:=by
 cases op<;>first|exact⟨rfl,rfl⟩|(simp only[effect]at hq;cases hq)
theorem pp{ρ:Operand->SV}{op:Op}{c:Callee'}(hq:cz ρ op=some c):isSelect op=false/\isDefer op=false:=by
 cases op<;>first|exact⟨rfl,rfl⟩|(simp only[cz]at hq;cases hq)
theorem zP{fn:Func}(hn:fn.name= "maps.clone")(ho:fn.origin= "" \/fn.origin= "maps.clone"):Extern.findNext fn=none/\Extern.find fn=some Extern.MapsClone.clone:=by
 have a1:Extern.allNextRows.lookup "maps.clone" =none:=bm;have a2:Extern.allNextRows.lookup "" =none:=bm;have b1:Extern.allGenericRows.lookup "maps.clone" =none:=bm;have b2:Extern.allTypedRows.lookup "maps.clone" =none:=bm;have b3:Extern.allRows.lookup "maps.clone" =some Extern.MapsClone.clone:=bm;constructor
 .rcases ho with ho|ho<;>simp only[Extern.findNext,hn,ho,a1,a2]<;>rfl
 .simp only[Extern.find,hn,b1,b2,b3];rfl
theorem Al(hN:ed P){f:FuncId}{args:List SV}{x:SV×Hp}(hq:gw P h f args=some x)(hr:Rep Γ X w0 θ K h w)(hok:SV.okL K args):
 ∃(θ':Ren) (K':Nat->Prop) (w':World),Grow K θ h.next K' θ' x.2.next/\(callFunc f (concL θ args).toArray).run P w=.ok (.value (conc θ' x.1)) w'/\x.1.ok K'/\Rep Γ X w0 θ' K' x.2 w':=by
 unfold gw at hq;split at hq
 .rename_i fn t b hfn;cases hc:(fn.body.isNone&&(fn.name== "maps.clone")&&(fn.origin== "" ||fn.origin== "maps.clone"))with
  |false=>rw[hc]at hq;cases hq
  |true=>
   rw[hc]at hq;simp only[bf]at hq;simp only[a8,Bool.or_eq_true,beq_iff_eq]at hc;obtain⟨⟨hbody,hname⟩,horg⟩:=hc;obtain⟨hfn1,hfn2⟩:=zP hname horg;split at hq
   .rename_i es c hb;simp only[a7]at hq;subst hq;have hnk:=hr.next h.next (av _);obtain⟨hg,_⟩:=hr.map (P:=P) hb;have hmok:=hr.okAll b _ hb;have hE:Ext K θ (θ.bind h.next w.heap.size 0):=Ren.bind_ext hnk;refine⟨θ.bind h.next w.heap.size 0,hJ K h.next,w.alloc (.map (es.map (cg θ)).toArray c),⟨hE,bW,cT,Nat.le_succ _⟩,?_,.inr rfl,?_⟩
    .simp only[callFunc,ae,run_program,Result.andThen,hfn,hN f fn hfn,aA,if_false,hbody,if_true,hfn1,hfn2];have hcl:(Extern.MapsClone.clone #[.iface t (.map (some (θ.blk b)))]).run P w=.ok (.iface t (.map (some w.heap.size))) (w.alloc (.map (es.map (cg θ)).toArray c)):=by
      have e:Extern.MapsClone.clone #[.iface t (.map (some (θ.blk b)))]=(getObj (θ.blk b)>>=λo=>match o with
       | .map entries clock=>newObj (.map entries clock)>>=λr=>pure (.iface t (.map (some r)))
       |_=>stuck "maps.clone: a map expected"):=rfl
      rw[e];simp only[ae,hg,Result.andThen,run_newObj,ah,World.alloc_eq]
     simp only[mark,Sem.run,concL,conc,hcl,ah,Hp.new,Ren.bind_blk]
    .refine hr.make_next (o:=.map es c) rfl rfl rfl rfl (λe he=>⟨ok_mono bW _ (hmok e he).1,ok_mono bW _ (hmok e he).2⟩) ?_;simp only[ORep];congr 2;exact List.map_congr_left λe he=>by rw[gT hE _ (hmok e he).1,gT hE _ (hmok e he).2];rfl
   .cases hq
 .cases hq
theorem iR(hN:ed P)(hS:Sound P Γ self){fr:Fr}{o:Oper}{outs:List (SV×Hp)}(hq:lW P Γ self fr h o=some outs){r:Option Nat}{a:Act}(hr:Rep Γ X w0 θ K h w)(ha:pK θ K fr a o)
 {next:Act->World->Prop} {Q:Exit->Act->World->Prop}
 (hnext:∀x∈outs,∀(θ':Ren) (K':Nat->Prop) (w':World),Grow K θ h.next K' θ' x.2.next->x.1.ok K'->Rep Γ X w0 θ' K' x.2 w'->next (a.put o.dst (conc θ' x.1)) w'):
 o.wpIn (G r) 0 P a w next Q:=by
 refine⟨λf _=>uK r f,?_⟩;unfold lW at hq;split at hq
 .rename_i f args hc;obtain⟨hsel,hdef⟩:=pp hc;rw[fe hdef,eM hsel ha];have hargs:SV.okL K args/\(execOp (λx=>conc θ (fr.ev x)) o).run P w=(callFunc f (concL θ args).toArray).run P w:=by
   unfold cz at hc;split at hc
   .rename_i fo ar ty ho;have hopf:fo∈o.op.operands:=by rw[ho];simp[Op.operands,Call.operands]
    have hopa:∀x∈ar.toList,x∈o.op.operands:=λx hx=>by rw[ho];simp only[Op.operands,Call.operands,Array.mem_append];exact .inr (by simpa using hx)
    split at hc
    .rename_i g x y hv;simp only[a7,Callee'.fn.injEq]at hc;obtain⟨rfl,rfl⟩:=hc;refine⟨dn (dn (gk _ _) ((dQ _ _).2 λv hv=>?_)) (gk _ _),?_⟩
     .obtain⟨u,hu,rfl⟩:=List.mem_map.1 hv;exact(ha u (hopa u hu)).2
     .have he:(x++ar.map λz=>conc θ (fr.ev z))++y=(concL θ (x.toList.map .lit++ar.toList.map fr.ev++y.toList.map .lit)).toArray:=by
       rw[<-aN];simp only[Array.toList_append,eO,kA,Array.toList_map];simp[cV,Function.comp]
      simp only[execOp,ho,resolve,hv,conc,Deferred.ofValue,ae,ah,Result.andThen,invoke,he]
    .rename_i g x y hv;simp only[a7,Callee'.fn.injEq]at hc;obtain⟨rfl,rfl⟩:=hc;have hfok:=(ha fo hopf).2;rw[hv]at hfok;refine⟨dn (dn hfok.1 ((dQ _ _).2 λv hv=>?_)) hfok.2,?_⟩
     .obtain⟨u,hu,rfl⟩:=List.mem_map.1 hv;exact(ha u (hopa u hu)).2
     .have he:((concL θ x).toArray++ar.map λz=>conc θ (fr.ev z))++(concL θ y).toArray=(concL θ (x++ar.toList.map fr.ev++y)).toArray:=by
       rw[<-aN];simp only[Array.toList_append,eO,Array.toList_map];simp[cV,Function.comp]
      simp only[execOp,ho,resolve,hv,conc,Deferred.ofValue,ae,ah,Result.andThen,invoke,he]
    .simp only[a7]at hc;cases hc
    .cases hc
   .cases hc
  rw[hargs.2];split at hq
  .rename_i x hx;simp only[a7]at hq;subst hq;obtain⟨θ',K',w',hG,hrun,hok,hrep⟩:=Al hN hx hr hargs.1;rw[hrun];exact hnext x (List.mem_singleton.2 rfl) θ' K' w' hG hok hrep
  .rw[aa]at hq;obtain⟨os,hos,rfl⟩:=hq;obtain⟨⟨fn,c,hfn,hbody⟩,hcall⟩:=hS.call f args h os hos;have hcf:∀vs:Array Value,(callFunc f vs).run P w=.ok (.enter f vs) w:=λvs=>by
    simp only[callFunc,ae,run_program,Result.andThen,hfn,hN f fn hfn,aA,if_false,hbody,Option.isNone_some,ah]
   rw[hcf];refine⟨pZ r 0,?_⟩;refine CallsIn.mono (F:=Fence.wide) (n:=0) (hcall X w0 θ K w hr hargs.1) λe w' he=>?_;obtain⟨x,hx,θ',K',h1,rfl,h4,h5⟩:=he;exact hnext (x.v,x.hp) (List.mem_map.2 ⟨x,hx,rfl⟩) θ' K' w' h1 h4 h5
 .rename_i b args hc;obtain⟨hsel,hdef⟩:=pp hc;rw[aa]at hq;obtain⟨os,hos,rfl⟩:=hq;rw[fe hdef,eM hsel ha];unfold cz at hc;split at hc
  .rename_i fo ar ty ho;split at hc
   .simp only[a7]at hc;cases hc
   .simp only[a7]at hc;cases hc
   .rename_i b' hv;simp only[a7,Callee'.round.injEq]at hc;obtain⟨rfl,rfl⟩:=hc;have hok:SV.okL K (ar.toList.map fr.ev):=(dQ _ _).2 λv hv=>by
     obtain⟨u,hu,rfl⟩:=List.mem_map.1 hv;exact(ha u (by rw[ho];simp only[Op.operands,Call.operands,Array.mem_append];exact .inr (by simpa using hu))).2
    obtain⟨l,f,tmps,assign,body,hy,hround⟩:=hS.round b' _ h os hos X w0 θ K w hr hok;have he:(#[]++ar.map λz=>conc θ (fr.ev z))=(concL θ (ar.toList.map fr.ev)).toArray:=by
     rw[<-aN];simp[cV,Function.comp]
    have hrun:(execOp (λx=>conc θ (fr.ev x)) o).run P w=.ok (.round l f tmps assign body) w:=by
     simp only[execOp,ho,resolve,hv,conc,Deferred.ofValue,ae,ah,Result.andThen,invoke,he,hy]
    rw[hrun];refine⟨pZ r 0,?_⟩;refine RoundIn.mono (F:=Fence.wide) (n:=0) hround λe w' he=>?_;obtain⟨x,hx,θ',K',h1,rfl,h4,h5⟩:=he;exact hnext (x.v,x.hp) (List.mem_map.2 ⟨x,hx,rfl⟩) θ' K' w' h1 h4 h5
   .cases hc
  .cases hc
 .split at hq
  .cases hq
  .rename_i os hos;cases hall:os.all (λr=>Nat.ble h.next r.2.next)with
   |false=>rw[hall]at hq;cases hq
   |true=>
    rw[hall]at hq;simp only[bf,a7]at hq;subst hq;obtain⟨hsel,hdef⟩:=xK hos;rw[fe hdef,eM hsel ha];obtain⟨x,hx,θ',K',w',nx,h1,h2,h3,hrun,hnx,h4,h5⟩:=uX hos hr λx hx=>(ha x hx).2;have hg:Grow K θ h.next K' θ' x.2.next:=⟨h1,h2,h3,dy (aE.1 hall x hx)⟩;rw[hrun];rcases hnx with rfl|⟨rfl,hv⟩
    .exact hnext x hx θ' K' w' hg h4 h5
    .have:=hnext x hx θ' K' w' hg h4 h5;rw[hv]at this;exact this
theorem l6{fr:Fr}{a:Act}{ops:Array Oper}{o:Oper}{b:Bool}(hq:cL ops fr o=some b)(hsz:a.tmps.size=fr.sz)
 (hf:∀j want t,o.guard=some (j,want)->(ops[j]?).bind (·.dst)=some t->a.tmps.getD t undef=conc θ (fr.ev (.tmp t))):Region.wanted o (yielded ops a.tmps)=b:=by
 unfold cL at hq;unfold Region.wanted;split at hq
 .rename_i hg;rw[hg];simp only[a7]at hq;exact hq
 .rename_i j want hg;rw[hg];simp only;split at hq
  .rename_i ht;simp only[a7]at hq;subst hq;simp[yielded,ht]
  .rename_i t ht;have hy:yielded ops a.tmps j=if t<fr.sz then(match conc θ (fr.ev (.tmp t))with| .bool b=>some b|_=>none)else none:=by
    unfold yielded;rw[ht];simp only[ay];by_cases hlt:t<fr.sz
    .rw[bi hlt];have h1:=hf j want t hg ht;have hsz':t<a.tmps.size:=by rw[hsz];exact hlt
     simp only[Array.getD_eq_getD_getElem?,Array.getElem?_eq_getElem hsz',Option.getD_some]at h1;rw[Array.getElem?_eq_getElem hsz',h1];generalize conc θ (fr.ev (.tmp t))=u;cases u<;>rfl
    .rw[bh hlt];rw[Array.getElem?_eq_none (by rw[hsz];exact Nat.le_of_not_lt hlt)]
   rw[hy];cases hlt:Nat.blt t fr.sz with
   |false=>
    rw[hlt]at hq;simp only[bg,a7]at hq;have:¬t<fr.sz:=λhp=>by
     have:Nat.blt t fr.sz=true:=ai hp;rw[this]at hlt;cases hlt
    rw[bh this,<-hq];rfl
   |true=>
    rw[hlt]at hq;simp only[bf]at hq;rw[bi (ca hlt)];split at hq
    .rename_i c hc;simp only[a7]at hq;rw[hc,<-hq];simp only[conc];cases c<;>cases want<;>rfl
    .rename_i v hv hc;simp only[a7]at hq;rw[hc,<-hq];simp only[conc];cases v<;>first|rfl|exact absurd hc (hv _)
    .cases hq
theorem AV[AskOk P Γ](hN:ed P)(hS:Sound P Γ self){ops:Array Oper}{fr:Fr}{o:Oper}{outs:List (Fr×Hp)}(hq:oper P Γ self ops fr h o=some outs){r:Option Nat}{a:Act}(hr:Rep Γ X w0 θ K h w)(hf:FRep θ K fr a)
 {next:Act->World->Prop} {Q:Exit->Act->World->Prop}
 (hnext:∀x∈outs,∀(θ':Ren) (K':Nat->Prop) (a':Act) (w':World),Grow K θ h.next K' θ' x.2.next->FRep θ' K' x.1 a'->Rep Γ X w0 θ' K' x.2 w'->next a' w'):
 if Region.wanted o (yielded ops a.tmps)then o.wpIn (G r) 0 P a w next Q else(∀f,o.about P w a.eval=some f->(G r).fn f)/\next (a.put o.dst undef) w:=by
 unfold oper at hq;have hwant:∀b,cL ops fr o=some b->Region.wanted o (yielded ops a.tmps)=b:=λb hb=>l6 hb hf.tmps.1 λj want t _ _=>hf.tmps.2 t;split at hq
 .cases hq
 .rename_i hw;rw[hwant _ hw,bh (by simp)];rw[aa]at hq;obtain⟨f,hp,rfl⟩:=hq;refine⟨λf _=>uK r f,hnext (f,h) (List.mem_singleton.2 rfl) θ K _ w (Grow.refl _ _ _) ?_ hr⟩;exact hf.put (v:=.lit undef) trivial hp
 .rename_i hw;rw[hwant _ hw,bi rfl];split at hq
  .rename_i v fs hquiet;rw[aa]at hq;obtain⟨f,hp,rfl⟩:=hq;refine⟨λf _=>uK r f,?_⟩;rcases ku hquiet with hquiet|⟨rfl,hask⟩
   .obtain⟨hsel,hdef⟩:=re hquiet;rw[fe hdef,eM hsel (hf.agree o),oY hquiet hr.globW λf hf=>hr.fact (pc hquiet f hf)];exact hnext (f,h) (List.mem_singleton.2 rfl) θ K _ w (Grow.refl _ _ _) (hf.put (F5 hquiet (λx hx=>hf.evOk x) hr.okAll) hp) hr
   .obtain⟨hvk,hsel,hdef,hrun⟩:=AskOk.ok (P:=P) hr.inv _ _ _ hask λx _=>hf.evOk x;rw[fe hdef,eM hsel (hf.agree o),hrun o w rfl];exact hnext (f,h) (List.mem_singleton.2 rfl) θ K _ w (Grow.refl _ _ _) (hf.put hvk hp) hr
  .split at hq
   .rename_i rs hloud;refine iR hN hS hloud hr (hf.agree o) λx hx θ' K' w' h1 h3 h4=>?_;obtain⟨y,hy,hm⟩:=fA hq x hx;rw[aa]at hy;obtain⟨f,hp,rfl⟩:=hy;exact hnext (f,x.2) (hm _ (List.mem_singleton.2 rfl)) θ' K' _ w' h1 ((hf.ext h1.ext h1.mono).put h3 hp) h4
   .cases hq
theorem uN[AskOk P Γ](hN:ed P)(hS:Sound P Γ self){ops:Array Oper}{r:Option Nat}(l:List Oper):∀{i:Nat} {fr:Fr} {h:Hp} {outs:List Out} {θ:Ren} {K:Nat->Prop} {a:Act} {w:World},
 (∀k,(l[k]?)=ops[i+k]?)->iM P Γ self ops l fr h=some outs->Rep Γ X w0 θ K h w->FRep θ K fr a->wpOpsIn (G r) 0 P ops (Post Γ X w0 θ K h.next outs) (List.range' i l.length) a w:=by
 induction l with
 |nil=>
  intro i fr h outs θ K a w _ hq hr hf;simp only[iM,a7]at hq;subst hq;exact⟨_,List.mem_singleton.2 rfl,θ,K,Grow.refl _ _ _,rfl,hr,hf⟩
 |cons o l ih=>
  intro i fr h outs θ K a w hl hq hr hf;simp only[iM]at hq;have h0:ops[i]? =some o:=(hl 0).symm;have hl':∀k,l[k]? =ops[i+1+k]? :=λk=>by have:=hl (k+1);rw[List.getElem?_cons_succ]at this;rw[this];congr 1;omega
  split at hq
  .rename_i xs hxs;simp only[au,List.range'_succ,wpOpsIn,h0];have:=AV (next:=wpOpsIn (G r) 0 P ops (Post Γ X w0 θ K h.next outs) (List.range' (i+1) l.length)) (Q:=Post Γ X w0 θ K h.next outs) (r:=r) hN hS hxs hr hf (λx hx θ' K' a' w' h1 h3 h4=>by
    obtain⟨y,hy,hm⟩:=fA hq x hx;have:=ih hl' hy h4 h3;refine vR ?_ _ _ _ this;intro e a w hp;exact hp.trans h1 hm)
   exact this
  .cases hq
end
def Fact.ok(K:Nat->Prop):Fact->Prop
 | .cells _ _ vs=>SV.okL K vs
 | .obj _ o=>o.ok K
section
variable {P:Program}{Γ:Env}{K:Nat->Prop}{h:Hp}
theorem l4{p:SV}{n:Nat}{vs:List SV}{fs:List Fact}(hq:bF Γ h p n=some (vs,fs))(hf:∀f∈fs,f.ok K):SV.okL K vs:=by
 unfold bF at hq;split at hq
 .split at hq
  .simp only[a7,ap]at hq;obtain⟨rfl,rfl⟩:=hq;exact hf _ (List.mem_singleton.2 rfl)
  .cases hq
 .split at hq
  .rename_i us hus;simp only[a7,ap]at hq;obtain⟨rfl,rfl⟩:=hq;simp only[aJ]at hus;obtain⟨cs,_,hc⟩:=hus;exact fP (gk K cs) λv hv=>fw hc hv
  .cases hq
 .cases hq
theorem Dg{t:TypeId}{p v:SV}{fs:List Fact}(hq:dk P Γ h t p=some (v,fs))(hf:∀f∈fs,f.ok K):v.ok K:=by
 unfold dk at hq;split at hq
 .split at hq
  .split at hq
   .rename_i hr;simp only[a7,ap]at hq;obtain⟨rfl,rfl⟩:=hq;exact l4 hr hf
   .cases hq
  .cases hq
 .split at hq
  .rename_i hr;simp only[a7,ap]at hq;obtain⟨rfl,rfl⟩:=hq;exact(l4 hr hf).1
  .cases hq
 .cases hq
theorem u9{m:SV}{es:List (SV×SV×Nat)}{fs:List Fact}(hq:d8 h m=some (es,fs))(hf:∀f∈fs,f.ok K):∀e∈es,e.1.ok K/\e.2.1.ok K:=by
 unfold d8 at hq;split at hq
 .simp only[a7,ap]at hq;obtain⟨rfl,rfl⟩:=hq;intro e he;cases he
 .split at hq
  .simp only[a7,ap]at hq;obtain⟨rfl,rfl⟩:=hq;exact hf _ (List.mem_singleton.2 rfl)
  .cases hq
 .cases hq
theorem xN{t:TypeId}{m k v:SV}{ok:Bool}{fs:List Fact}(hq:dC P h t m k ok=some (v,fs))(hf:∀f∈fs,f.ok K):v.ok K:=by
 unfold dC at hq;split at hq
 .rename_i hes hk;split at hq
  .rename_i i v' hck hfd;simp only[a7,ap]at hq;obtain⟨rfl,rfl⟩:=hq;obtain⟨e,he,rfl⟩:=tV _ hfd;have:=(u9 hes hf e he).2;cases ok
   .exact this
   .exact⟨this,trivial,trivial⟩
  .split at hq
   .simp only[a7,ap]at hq;obtain⟨rfl,rfl⟩:=hq;cases ok
    .trivial
    .exact⟨trivial,trivial,trivial⟩
   .cases hq
  .cases hq
 .cases hq
theorem DN{ρ:Operand->SV}{op:Op}{v:SV}{fs:List Fact}(hq:quiet P Γ h ρ op=some (v,fs))(hρ:∀x∈op.operands,(ρ x).ok K)(hf:∀f∈fs,f.ok K):v.ok K:=by
 unfold quiet at hq;split at hq
 .simp only[a7,ap]at hq;obtain⟨rfl,rfl⟩:=hq;exact hρ _ (by simp[Op.operands])
 .simp only[a7,ap]at hq;obtain⟨rfl,rfl⟩:=hq;exact hρ _ (by simp[Op.operands])
 .split at hq
  .rename_i t ht;simp only[a7,ap]at hq;obtain⟨rfl,rfl⟩:=hq;cases t
   .exact hρ _ (by simp[Op.operands])
   .exact hρ _ (by simp[Op.operands])
  .cases hq
 .exact Dg hq hf
 .rename_i x;cases hn:fZ (ρ x)with
  |false=>rw[hn]at hq;cases hq
  |true=>
   rw[hn]at hq;simp only[bf,a7,ap]at hq;obtain⟨rfl,rfl⟩:=hq;exact hρ _ (by simp[Op.operands])
 .obtain⟨h1,rfl⟩:=bD hq;exact lY h1 (hρ _ (by simp[Op.operands]))
 .obtain⟨h1,rfl⟩:=bD hq;exact lZ h1 (hρ _ (by simp[Op.operands]))
 .rename_i t x i;split at hq
  .split at hq
   .rename_i f l hfi hx;obtain⟨h1,rfl⟩:=bD hq;have:=hρ x (by simp[Op.operands]);rw[hx]at this;exact k7 h1 this
   .obtain⟨h1,rfl⟩:=bD hq;exact k7 h1 (gk _ _)
   .cases hq
  .cases hq
 .obtain⟨h1,rfl⟩:=bD hq;exact tD h1 (hρ _ (by simp[Op.operands]))
 .rename_i x i;split at hq
  .rename_i l hx;obtain⟨h1,rfl⟩:=bD hq;have:=hρ x (by simp[Op.operands]);rw[hx]at this;exact(dQ _ _).1 this _ (aW h1)
  .obtain⟨h1,rfl⟩:=bD hq;rw[aa]at h1;obtain⟨u,_,rfl⟩:=h1;trivial
  .cases hq
 .rename_i t parts;obtain⟨h1,rfl⟩:=bD hq;refine to h1 λp hp=>?_;obtain⟨q,hq,rfl⟩:=List.mem_map.1 hp;refine hρ _ ?_;simp only[Op.operands,List.mem_toArray,List.mem_map];exact⟨q,hq,rfl⟩
 .rename_i fn a c;simp only[a7,ap]at hq;obtain⟨rfl,rfl⟩:=hq;refine⟨(dQ _ _).2 λv hv=>?_,(dQ _ _).2 λv hv=>?_⟩
  .obtain⟨x,hx,rfl⟩:=List.mem_map.1 hv;exact hρ _ (by simp only[Op.operands,Array.mem_append];exact .inl (by simpa using hx))
  .obtain⟨x,hx,rfl⟩:=List.mem_map.1 hv;exact hρ _ (by simp only[Op.operands,Array.mem_append];exact .inr (by simpa using hx))
 .split at hq
  .cases hq
  .simp only[a7,ap]at hq;obtain⟨rfl,rfl⟩:=hq;exact hρ _ (by simp[Op.operands])
  .cases hq
 .obtain⟨h1,rfl⟩:=bD hq;exact BI h1
 .split at hq
  .obtain⟨h1,rfl⟩:=bD hq;rw[aa]at h1;obtain⟨u,_,rfl⟩:=h1;trivial
  .cases hq
 .exact(kK hq).1
 .obtain⟨h1,rfl⟩:=bD hq;exact sY h1 (hρ _ (by simp[Op.operands]))
 .exact xN hq hf
 .obtain⟨h1,rfl⟩:=bD hq;exact qG h1 (hρ _ (by simp[Op.operands]))
 .split at hq
  .exact(vK hq).1
  .cases hq
 .split at hq
  .obtain⟨h1,rfl⟩:=bD hq;rw[aa]at h1;obtain⟨u,_,rfl⟩:=h1;trivial
  .cases hq
 .split at hq
  .obtain⟨h1,rfl⟩:=bD hq;rw[aa]at h1;obtain⟨u,_,rfl⟩:=h1;trivial
  .cases hq
 .cases hq
end
theorem EW(a b i:Nat):(a|||b).testBit i=(a.testBit i||b.testBit i):=Nat.testBit_or a b i
theorem Co(n m:Nat):(2^n).testBit m=decide (n=m):=Nat.testBit_two_pow
theorem eN(a n i:Nat):(a|||2^n).testBit i=(a.testBit i||decide (n=i)):=by rw[EW,Co]
theorem n8{a b:Nat}(h:Nat.beq (Nat.land a b) 0=true)(i:Nat)(ha:a.testBit i=true):b.testBit i=false:=by
 have h0:a&&& b=0:=eq_of_beq h;have:=Nat.testBit_and a b i;rw[h0,ha]at this
 simpa using this.symm
theorem vE{a b:Nat}(h:Nat.beq (Nat.land a b) 0=false):∃i,a.testBit i=true/\b.testBit i=true:=by
 have h0:a&&& b≠0:=ej h;obtain⟨i,hi⟩:=Nat.exists_testBit_of_ne_zero h0;rw[Nat.testBit_and,a8]at hi;exact⟨i,hi⟩
theorem E0{a b:Nat}(h:Nat.beq (Nat.land a b) a=true)(i:Nat)(ha:a.testBit i=true):b.testBit i=true:=by
 have h0:a&&& b=a:=eq_of_beq h;have:=Nat.testBit_and a b i;rw[h0,ha]at this
 simpa using this.symm
theorem qj(o:Oper)(k:Nat):(depsOf o).testBit k=true↔∃e∈o.after,Region.binds .any e=true/\e.on=k:=by
 unfold depsOf;rw[<-Array.foldl_toList];have key:∀(l:List Edge) (s:Nat),(l.foldl (λs e=>bif Region.binds .any e then s|||2^e.on else s) s).testBit k=true↔s.testBit k=true\/∃e∈l,Region.binds .any e=true/\e.on=k:=by
  intro l
  induction l with
  |nil=>intro s;simp
  |cons e l ih=>
   intro s;rw[List.foldl_cons,ih];cases hb:Region.binds .any e with
   |false=>
    simp only[bg,aD,exists_eq_or_imp,hb,aA,false_and,false_or]
   |true=>
    simp only[bf,eN,Bool.or_eq_true,ba,aD,exists_eq_or_imp,hb,true_and];rw[or_assoc]
 rw[key];simp
theorem ma{ops:Array Oper}{o:Oper}{t:Nat}(h:t∈o.looksAt ops):(iL ops o).testBit t=true:=by
 unfold iL;have key:∀(l:List Tmp) (s:Nat),(s.testBit t=true\/t∈l)->(l.foldl (λs t=>s|||2^t) s).testBit t=true:=by
  intro l
  induction l with
  |nil=>intro s h;simpa using h
  |cons e l ih=>
   intro s h;rw[List.foldl_cons];refine ih _ ?_;rcases h with h|h
   .left;rw[eN,h];rfl
   .rcases aD.1 h with rfl|h
    .left;rw[eN];simp
    .exact .inr h
 exact key _ _ (.inr h)
theorem kM{o:Oper}{d:Nat}(h:o.dst=some d):(lJ o).testBit d=true:=by
 unfold lJ;rw[h,Co];simp
structure Fit(ops:Array Oper):Prop where
 sel:∀(j:Nat) (o:Oper),ops[j]? =some o->isSelect o.op=false/\isDefer o.op=false
 low:∀(j:Nat) (o:Oper) (k:Nat),ops[j]? =some o->(depsOf o).testBit k=true->k<j
 apart:∀(i j:Nat) (oi oj:Oper),ops[i]? =some oi->ops[j]? =some oj->i≠j->(depsOf oj).testBit i=false->(depsOf oi).testBit j=false->
  ∀d,oi.dst=some d->d∉oj.looksAt ops/\oj.dst≠some d
theorem qs{ops:Array Oper}{j d l deps:Nat}(L:List Oper):∀{i0:Nat},j7 ops j d l L i0 deps=true->∀(k:Nat) (o:Oper),L[k]? =some o->i0+k=j\/deps.testBit (i0+k)=true\/
 (Nat.beq (Nat.land (lJ o) (l|||d)) 0=true/\Nat.beq (Nat.land d (iL ops o)) 0=true):=by
 induction L with
 |nil=>intro i0 _ k o h;cases h
 |cons o L ih=>
  intro i0 h k o' hk;simp only[j7,a8]at h;obtain⟨h1,h2⟩:=h;cases k with
  |zero=>
   simp only[List.getElem?_cons_zero,a7]at hk;subst hk;rw[Nat.add_zero];cases hb:Nat.beq i0 j with
   |true=>exact .inl (eq_of_beq hb)
   |false=>
    rw[hb]at h1;simp only[bg]at h1;cases hd:deps.testBit i0 with
    |true=>exact .inr (.inl rfl)
    |false=>
     rw[hd]at h1;simp only[bg,a8]at h1;exact .inr (.inr h1)
  |succ k=>
   have:=ih h2 k o' (by simpa using hk)
   rwa [show i0+(k+1)=i0+1+k by omega]
theorem rz{ops:Array Oper}(L:List Oper):∀{j0:Nat},eJ ops L j0=true->∀(k:Nat) (o:Oper),L[k]? =some o->
 isSelect o.op=false/\isDefer o.op=false/\depsOf o<2^(j0+k)/\j7 ops (j0+k) (lJ o) (iL ops o) (ops.toList.take (j0+k)) 0 (depsOf o)=true:=by
 induction L with
 |nil=>intro j0 _ k o h;cases h
 |cons o L ih=>
  intro j0 h k o' hk;simp only[eJ,a8,Bool.not_eq_true']at h;obtain⟨⟨⟨⟨h1,h2⟩,h3⟩,h4⟩,h5⟩:=h;cases k with
  |zero=>
   simp only[List.getElem?_cons_zero,a7]at hk;subst hk;exact⟨h1,h2,ca h3,h4⟩
  |succ k=>
   have:=ih h5 k o' (by simpa using hk)
   rwa [show j0+1+k=j0+(k+1) by omega]at this
theorem Fit.of{ops:Array Oper}(h:eJ ops ops.toList 0=true):Fit ops:=by
 have spec:=λ(j:Nat) (o:Oper) (hj:ops[j]? =some o)=>rz ops.toList h j o (by rw[Array.getElem?_toList];exact hj);simp only[aX]at spec;have pair:∀(i j:Nat) (oi oj:Oper),ops[i]? =some oi->ops[j]? =some oj->i<j->(depsOf oj).testBit i=false->
  (∀d,oi.dst=some d->d∉oj.looksAt ops/\oj.dst≠some d)/\(∀d,oj.dst=some d->d∉oi.looksAt ops):=by
  intro i j oi oj hi hj hlt hdep;obtain⟨_,_,_,h4⟩:=spec j oj hj;have:=qs (ops.toList.take j) h4 i oi (by rw[List.getElem?_take_of_lt hlt,Array.getElem?_toList];exact hi);rw[aX]at this;rcases this with e|e|⟨e1,e2⟩
  .omega
  .rw[hdep]at e;cases e
  .refine⟨λd hd=>?_,λd hd hin=>?_⟩
   .have hb:=n8 e1 d (kM hd);rw[EW,Bool.or_eq_false_iff]at hb;refine⟨λhin=>?_,λhe=>?_⟩
    .rw[ma hin]at hb;cases hb.1
    .rw[kM he]at hb;cases hb.2
   .have hb:=n8 e2 d (kM hd);rw[ma hin]at hb;cases hb
 refine⟨λj o hj=>⟨(spec j o hj).1,(spec j o hj).2.1⟩,λj o k hj hk=>?_,λi j oi oj hi hj hne hd1 hd2 d hd=>?_⟩
 .have hlt:=(spec j o hj).2.2.1;rcases Nat.lt_or_ge k j with h'|h'
  .exact h'
  .have:(depsOf o).testBit k=false:=Nat.testBit_lt_two_pow (aM hlt (Nat.pow_le_pow_right bj h'));rw[this]at hk;cases hk
 .rcases Nat.lt_or_gt_of_ne hne with hlt|hgt
  .exact(pair i j oi oj hi hj hlt hd1).1 d hd
  .obtain⟨p1,p2⟩:=pair j i oj oi hj hi hgt hd2;exact⟨p2 d hd,λhe=>(p1 d he).2 hd⟩
theorem xg(i:Nat)(l:List Oper):∀(k d x:Nat),d.testBit x=true->(descOf i l k d).testBit x=true:=by
 induction l with
 |nil=>intro k d x h;exact h
 |cons o l ih=>
  intro k d x h;rw[descOf];refine ih _ _ _ ?_;cases Nat.beq (Nat.land (depsOf o) (d|||2^i)) 0 with
  |true=>exact h
  |false=>rw[bg,eN,h];rfl
theorem si(i:Nat)(l:List Oper):∀(k d m:Nat) (o:Oper),l[m]? =some o->(depsOf o).testBit i=true->(descOf i l k d).testBit (k+m)=true:=by
 induction l with
 |nil=>intro k d m o h;cases h
 |cons o l ih=>
  intro k d m o' h hd;rw[descOf];cases m with
  |zero=>
   simp only[List.getElem?_cons_zero,a7]at h;subst h;refine xg i l _ _ _ ?_;have:Nat.beq (Nat.land (depsOf o) (d|||2^i)) 0=false:=by
    cases hb:Nat.beq (Nat.land (depsOf o) (d|||2^i)) 0 with
    |false=>rfl
    |true=>
     have:=n8 hb i hd;rw[eN]at this;simp at this
   rw[this,bg,eN];simp
  |succ m=>
   have:=ih (k+1) (bif Nat.beq (Nat.land (depsOf o) (d|||2^i)) 0 then d else d|||2^k) m o' (by simpa using h) hd
   rwa [show k+1+m=k+(m+1) by omega]at this
theorem uP(i:Nat){ops:Array Oper}(l:List Oper):∀(k d:Nat),(∀m,l[m]? =ops[k+m]?)->(∀x,d.testBit x=true->∃o,ops[x]? =some o/\∃e,(depsOf o).testBit e=true/\(e=i\/d.testBit e=true))->
 ∀x,(descOf i l k d).testBit x=true->∃o,ops[x]? =some o/\∃e,(depsOf o).testBit e=true/\(e=i\/(descOf i l k d).testBit e=true):=by
 induction l with
 |nil=>intro k d _ h;exact h
 |cons o l ih=>
  intro k d hl h;rw[descOf];refine ih _ _ (λm=>by have:=hl (m+1);rw[List.getElem?_cons_succ]at this;rw[this];congr 1;omega) ?_;cases hb:Nat.beq (Nat.land (depsOf o) (d|||2^i)) 0 with
  |true=>simpa using h
  |false=>
   obtain⟨e,he1,he2⟩:=vE hb;rw[eN,Bool.or_eq_true,ba]at he2;intro x hx;simp only[bg,eN,Bool.or_eq_true,ba]at hx⊢;rcases hx with hx|rfl
   .obtain⟨o',ho',e',h1,h2⟩:=h x hx;exact⟨o',ho',e',h1,h2.imp id .inl⟩
   .refine⟨o,by have:=hl 0;simpa using this.symm,e,he1,?_⟩;rcases he2 with h2|h2
    .exact .inr (.inl h2)
    .exact .inl h2.symm
structure Rec where
 i:Nat
 o:Oper
 want:Bool
 v:SV
 facts:List Fact
 chg:Option (Nat×AObj)
 new:Bool
 desc:Nat
def FactT(t:T AObj)(f:Fact):Prop:=fI ⟨t,0⟩ f
theorem FactT.congr{t t':T AObj}{f:Fact}(h:t'.get f.blk=t.get f.blk)(hf:FactT t f):FactT t' f:=by
 cases f with
 |cells b off vs=>
  have h':t'.get b=t.get b:=h;simp only[FactT,fI,knownCells]at hf⊢;rw[h'];exact hf
 |obj b o=>
  have h':t'.get b=t.get b:=h;simp only[FactT,fI]at hf⊢;rw[h'];exact hf
theorem FactT.ofA{h:Hp}{f:Fact}(hf:fI h f):FactT h.objs f:=by
 cases f<;>exact hf
theorem FactT.toA{t:T AObj}{n:Nat}{f:Fact}(hf:FactT t f):fI ⟨t,n⟩ f:=by
 cases f<;>exact hf
section
variable (P:Program)(Γ:Env)(ops:Array Oper)
def Agr(θ:Ren)(K:Nat->Prop)(f:Fr)(a:Act)(o:Oper):Prop:=
 a.tmps.size=f.sz/\∀t∈o.looksAt ops,a.tmps.getD t undef=conc θ (f.ev (.tmp t))/\(f.ev (.tmp t)).ok K
structure Does(p:Rec)(f:Fr)(t:T AObj):Prop where
 guard:∀θ K a,Agr ops θ K f a p.o->Region.wanted p.o (yielded ops a.tmps)=p.want
 does:(p.want=false/\p.v=.lit undef/\p.facts=[]/\p.chg=none)\/
  (p.want=true/\p.chg=none/\(∀fc∈p.facts,FactT t fc)/\∀θ K a,Agr ops θ K f a p.o->AskH P Γ θ K->((∀fc∈p.facts,fc.ok K)->p.v.ok K)/\
   ∀w,GlobW Γ w->(∀fc∈p.facts,FactW θ w fc)->(execOp a.eval p.o).run P w=.ok (.value (conc θ p.v)) w)\/
  (p.want=true/\p.facts=[]/\p.new=true/\∃b ob,p.chg=some (b,ob)/\t.get b=none/\p.v.ok (·=b)/\∀θ K a,Agr ops θ K f a p.o->ob.ok K/\
   ∀w,∃ob',(execOp a.eval p.o).run P w=.ok (.value (conc (θ.bind b w.heap.size 0) p.v)) (w.alloc ob')/\ORep θ ob ob')\/
  (p.want=true/\p.facts=[]/\p.new=false/\∃b ob old,p.chg=some (b,ob)/\t.get b=some old/\p.v=.lit undef/\∀X w0 θ K a h w,Agr ops θ K f a p.o->Rep Γ X w0 θ K h w->h.objs.get b=some old->
   ∃w',(execOp a.eval p.o).run P w=.ok .skip w'/\Rep Γ X w0 θ K (h.upd b ob) w')
structure FEq(f g:Fr):Prop where
 sz:f.sz=g.sz
 marks:f.marks=g.marks
 tmps:∀t,f.tmps.get t=g.tmps.get t
structure FPut(f:Fr)(p:Rec)(g:Fr):Prop where
 sz:g.sz=f.sz
 marks:g.marks=f.marks
 tmps:∀t,g.tmps.get t=if p.o.dst=some t then some p.v else f.tmps.get t
 lt:∀d,p.o.dst=some d->d<f.sz
def IQ(t:T AObj)(p:Rec)(t':T AObj):Prop:=∀b,t'.get b=match p.chg with
 |some (b',ob)=>if b=b' then some ob else t.get b
 |none=>t.get b
def Chain:List Rec->Fr->T AObj->Fr->T AObj->Prop
 |[],f,t,fr,hp=>FEq f fr/\∀b,t.get b=hp.get b
 |p::rest,f,t,fr,hp=>Does P Γ ops p f t/\∃f1 t1,FPut f p f1/\IQ t p t1/\Chain rest f1 t1 fr hp
def Rec.on(p:Rec)(b:Nat):Prop:=(∃fc∈p.facts,fc.blk=b)\/∃ob,p.chg=some (b,ob)
structure Ind(p q:Rec):Prop where
 pq:∀d,p.o.dst=some d->d∉q.o.looksAt ops/\q.o.dst≠some d
 qp:∀d,q.o.dst=some d->d∉p.o.looksAt ops
 bp:∀b ob,p.chg=some (b,ob)->¬q.on b
 bq:∀b ob,q.chg=some (b,ob)->¬p.on b
end
section
variable {P:Program}{Γ:Env}{ops:Array Oper}
theorem FEq.ev{f g:Fr}(h:FEq f g)(x:Operand):f.ev x=g.ev x:=by
 cases x with
 |tmp t=>simp only[Fr.ev,h.tmps t]
 |_=>rfl
theorem FPut.ev{f g:Fr}{p:Rec}(h:FPut f p g){t:Nat}(hne:p.o.dst≠some t):g.ev (.tmp t)=f.ev (.tmp t):=by
 simp only[Fr.ev,h.tmps t,bh hne]
theorem Agr.congr{θ:Ren}{K:Nat->Prop}{f g:Fr}{a:Act}{o:Oper}(hs:g.sz=f.sz)(he:∀t∈o.looksAt ops,g.ev (.tmp t)=f.ev (.tmp t))(h:Agr ops θ K g a o):Agr ops θ K f a o:=
 ⟨h.1.trans hs,λt ht=>by rw[<-he t ht];exact h.2 t ht⟩
theorem Does.congr{p:Rec}{f g:Fr}{t s:T AObj}(hs:g.sz=f.sz)(he:∀t∈p.o.looksAt ops,g.ev (.tmp t)=f.ev (.tmp t))(hb:∀b,p.on b->s.get b=t.get b)(h:Does P Γ ops p f t):Does P Γ ops p g s:=by
 have ag:∀{θ K a},Agr ops θ K g a p.o->Agr ops θ K f a p.o:=λh=>h.congr hs he;refine⟨λθ K a ha=>h.guard θ K a (ag ha),?_⟩;rcases h.does with h1|⟨w1,c1,f1,r1⟩|⟨w1,f1,n1,b,ob,c1,g1,v1,r1⟩|⟨w1,f1,n1,b,ob,old,c1,g1,v1,r1⟩
 .exact .inl h1
 .exact .inr (.inl ⟨w1,c1,λfc hfc=>(f1 fc hfc).congr (hb _ (.inl ⟨fc,hfc,rfl⟩)),λθ K a ha=>r1 θ K a (ag ha)⟩)
 .exact .inr (.inr (.inl ⟨w1,f1,n1,b,ob,c1,by rw[hb b (.inr ⟨ob,c1⟩)];exact g1,v1,λθ K a ha=>r1 θ K a (ag ha)⟩))
 .exact .inr (.inr (.inr ⟨w1,f1,n1,b,ob,old,c1,by rw[hb b (.inr ⟨ob,c1⟩)];exact g1,v1,λX w0 θ K a h w ha=>r1 X w0 θ K a h w (ag ha)⟩))
theorem Chain.start{pd:List Rec}:∀{f f':Fr} {t t':T AObj} {fr:Fr} {hp:T AObj},FEq f' f->(∀b,t'.get b=t.get b)->Chain P Γ ops pd f t fr hp->Chain P Γ ops pd f' t' fr hp:=by
 cases pd with
 |nil=>intro f f' t t' fr hp hf ht h;exact⟨⟨hf.sz.trans h.1.sz,hf.marks.trans h.1.marks,λx=>(hf.tmps x).trans (h.1.tmps x)⟩,λb=>(ht b).trans (h.2 b)⟩
 |cons p rest=>
  intro f f' t t' fr hp hf ht h;obtain⟨hd,f1,t1,hp1,hc1,hr⟩:=h;refine⟨hd.congr hf.sz (λx _=>hf.ev _) λb _=>ht b,f1,t1,⟨hp1.sz.trans hf.sz.symm,hp1.marks.trans hf.marks.symm,λx=>by rw[hp1.tmps x,hf.tmps x],λd hd=>by rw[hf.sz];exact hp1.lt d hd⟩,λb=>?_,hr⟩;rw[hc1 b];cases p.chg with
  |none=>exact(ht b).symm
  |some c=>obtain⟨b',ob⟩:=c;simp only;split
           .rfl
           .exact(ht b).symm
theorem kl(f:Fr)(p:Rec)(h:∀d,p.o.dst=some d->d<f.sz):∃g,FPut f p g:=by
 cases hd:p.o.dst with
 |none=>exact⟨f,rfl,rfl,λt=>by rw[hd,bh (by simp)],λd he=>by rw[hd]at he;cases he⟩
 |some d=>exact⟨{f with tmps:=f.tmps.set d p.v},rfl,rfl,λt=>by
  simp only[T.get_set,hd,a7];by_cases e:t=d
  .rw[bi e,bi e.symm]
  .rw[bh e,bh (λe'=>e e'.symm)],λd' he=>by rw[hd]at he;cases he;exact h d hd⟩
theorem mq(t:T AObj)(p:Rec):∃t',IQ t p t':=by
 cases hc:p.chg with
 |none=>exact⟨t,λb=>by rw[hc]⟩
 |some c=>obtain⟨b',ob⟩:=c;exact⟨t.set b' ob,λb=>by rw[hc];exact T.get_set _ _ _ _⟩
theorem Chain.swap{p q:Rec}{rest:List Rec}{f fr:Fr}{t hp:T AObj}(hi:Ind ops p q)(h:Chain P Γ ops (p::q::rest) f t fr hp):Chain P Γ ops (q::p::rest) f t fr hp:=by
 obtain⟨dp,f1,t1,fp,hcp,dq,f2,t2,fq,hcq,hr⟩:=h;have ht1:∀b,q.on b->t1.get b=t.get b:=λb hb=>by
  rw[hcp b];cases hc:p.chg with
  |none=>rfl
  |some c=>
   obtain⟨b',ob⟩:=c;simp only;rw[bh (λe:b=b'=>hi.bp b' ob hc (e▸hb))]
 have hev1:∀x∈q.o.looksAt ops,f1.ev (.tmp x)=f.ev (.tmp x):=λx hx=>fp.ev λe=>(hi.pq x e).1 hx;have dq':Does P Γ ops q f t:=dq.congr fp.sz.symm (λx hx=>(hev1 x hx).symm) λb hb=>(ht1 b hb).symm;obtain⟨g1,hg1⟩:=kl f q (λd hd=>by rw[<-fp.sz];exact fq.lt d hd);obtain⟨s1,hs1⟩:=mq t q;have dp':Does P Γ ops p g1 s1:=dp.congr hg1.sz (λx hx=>hg1.ev λe=>hi.qp x e hx) λb hb=>by
  rw[hs1 b];cases hc:q.chg with
  |none=>rfl
  |some c=>
   obtain⟨b',ob⟩:=c;simp only;rw[bh (λe:b=b'=>hi.bq b' ob hc (e▸hb))]
 obtain⟨g2,hg2⟩:=kl g1 p (λd hd=>by rw[hg1.sz];exact fp.lt d hd);obtain⟨s2,hs2⟩:=mq s1 p;refine⟨dq',g1,s1,hg1,hs1,dp',g2,s2,hg2,hs2,hr.start ⟨?_,?_,λx=>?_⟩ λb=>?_⟩
 .rw[hg2.sz,hg1.sz,fq.sz,fp.sz]
 .rw[hg2.marks,hg1.marks,fq.marks,fp.marks]
 .rw[hg2.tmps x,hg1.tmps x,fq.tmps x,fp.tmps x];by_cases e1:p.o.dst=some x
  .rw[bi e1,bh (hi.pq x e1).2,bi e1]
  .rw[bh e1,bh e1]
 .rw[hs2 b,hs1 b,hcq b,hcp b];cases hc:p.chg with
  |none=>rfl
  |some c=>
   obtain⟨b1,o1⟩:=c;cases hc2:q.chg with
   |none=>rfl
   |some c2=>
    obtain⟨b2,o2⟩:=c2;simp only;by_cases e1:b=b1
    .rw[bi e1];have hne:¬b=b2:=λe2=>hi.bp b1 o1 hc (.inr ⟨o2,by rw[<-e1,e2];exact hc2⟩);rw[bh hne,bi e1]
    .rw[bh e1,bh e1]
theorem Chain.first{p:Rec}{post:List Rec}{fr:Fr}{hp:T AObj}:∀(pre:List Rec) {f:Fr} {t:T AObj},(∀q∈pre,Ind ops q p)->Chain P Γ ops (pre++p::post) f t fr hp->Chain P Γ ops (p::(pre++post)) f t fr hp:=by
 intro pre
 induction pre with
 |nil=>intro f t _ h;exact h
 |cons q pre ih=>
  intro f t hi h;obtain⟨dq,f1,t1,fq,hcq,hr⟩:=h;have:=ih (λx hx=>hi x (am _ hx)) hr;exact Chain.swap (hi q (ak ..)) ⟨dq,f1,t1,fq,hcq,this⟩
theorem Chain.snoc{p:Rec}{fr fr':Fr}{hp hp':T AObj}:∀(pd:List Rec) {f:Fr} {t:T AObj},Chain P Γ ops pd f t fr hp->Does P Γ ops p fr hp->FPut fr p fr'->IQ hp p hp'->Chain P Γ ops (pd++[p]) f t fr' hp':=by
 intro pd
 induction pd with
 |nil=>
  intro f t h hd hf hc;refine⟨hd.congr h.1.sz (λx _=>h.1.ev _) λb _=>h.2 b,fr',hp',⟨hf.sz.trans h.1.sz.symm,hf.marks.trans h.1.marks.symm,λx=>by rw[hf.tmps x,h.1.tmps x],λd hd=>by rw[h.1.sz];exact hf.lt d hd⟩,λb=>?_,⟨rfl,rfl,λ_=>rfl⟩,λ_=>rfl⟩;rw[hc b];cases p.chg with
  |none=>exact(h.2 b).symm
  |some c=>obtain⟨b',ob⟩:=c;simp only;split
           .rfl
           .exact(h.2 b).symm
 |cons q pd ih=>
  intro f t h hd hf hc;obtain⟨dq,f1,t1,fq,hcq,hr⟩:=h;exact⟨dq,f1,t1,fq,hcq,ih hr hd hf hc⟩
theorem Chain.block{fr:Fr}{hp:T AObj}:∀(pd:List Rec) {f:Fr} {t:T AObj} (b:Nat),Chain P Γ ops pd f t fr hp->(∀p∈pd,∀ob,p.chg≠some (b,ob))->t.get b=hp.get b:=by
 intro pd
 induction pd with
 |nil=>intro f t b h _;exact h.2 b
 |cons p pd ih=>
  intro f t b h hn;obtain⟨_,f1,t1,_,hc,hr⟩:=h;rw[<-ih b hr λq hq=>hn q (am _ hq),hc b];cases hch:p.chg with
  |none=>rfl
  |some c=>
   obtain⟨b',ob⟩:=c;simp only;rw[bh (λe=>hn p (ak ..) ob (by rw[hch,e]))]
theorem Chain.slot{fr:Fr}{hp:T AObj}:∀(pd:List Rec) {f:Fr} {t:T AObj} (x:Nat),Chain P Γ ops pd f t fr hp->(∀p∈pd,p.o.dst≠some x)->f.ev (.tmp x)=fr.ev (.tmp x):=by
 intro pd
 induction pd with
 |nil=>intro f t x h _;exact h.1.ev _
 |cons p pd ih=>
  intro f t x h hn;obtain⟨_,f1,t1,fp,_,hr⟩:=h;rw[<-ih x hr λq hq=>hn q (am _ hq),fp.ev (hn p (ak ..))]
theorem Chain.size{fr:Fr}{hp:T AObj}:∀(pd:List Rec) {f:Fr} {t:T AObj},Chain P Γ ops pd f t fr hp->f.sz=fr.sz/\f.marks=fr.marks:=by
 intro pd
 induction pd with
 |nil=>intro f t h;exact⟨h.1.sz,h.1.marks⟩
 |cons p pd ih=>
  intro f t h;obtain⟨_,f1,t1,fp,_,hr⟩:=h;obtain⟨h1,h2⟩:=ih hr;exact⟨fp.sz.symm.trans h1,fp.marks.symm.trans h2⟩
theorem Chain.rebase{g:Nat->Bool}{d:Option Tmp}{v:SV}{r:T AObj}:∀(pd:List Rec) {f f' fr fr':Fr} {t t' hp hp':T AObj},
 Chain P Γ ops pd f t fr hp->f'.sz=f.sz->fr'.sz=fr.sz->f'.marks=fr'.marks->(∀x,f'.tmps.get x=if d=some x then some v else f.tmps.get x)->(∀x,fr'.tmps.get x=if d=some x then some v else fr.tmps.get x)->
 (∀p∈pd,∀x,d=some x->x∉p.o.looksAt ops/\p.o.dst≠some x)->
 (∀b,g b=true->t'.get b=t.get b)->(∀b,g b=false->t'.get b=r.get b)->(∀b,g b=true->hp'.get b=hp.get b)->(∀b,g b=false->hp'.get b=r.get b)->
 (∀p∈pd,∀b ob,p.chg=some (b,ob)->g b=true)->(∀p∈pd,∀fc∈p.facts,g fc.blk=false->FactT r fc)->Chain P Γ ops pd f' t' fr' hp':=by
 intro pd
 induction pd with
 |nil=>
  intro f f' fr fr' t t' hp hp' h s1 s2 m1 e1 e2 _ g1 g2 g3 g4 _ _;refine⟨⟨by rw[s1,s2];exact h.1.sz,m1,λx=>?_⟩,λb=>?_⟩
  .rw[e1 x,e2 x,h.1.tmps x]
  .cases hg:g b with
   |true=>rw[g1 b hg,g3 b hg];exact h.2 b
   |false=>rw[g2 b hg,g4 b hg]
 |cons p pd ih=>
  intro f f' fr fr' t t' hp hp' h s1 s2 m1 e1 e2 hap g1 g2 g3 g4 hch hfa;obtain⟨dp,f1,t1,fp,hc,hr⟩:=h;have hpa:=hap p (ak ..);have hev:∀x∈p.o.looksAt ops,f'.ev (.tmp x)=f.ev (.tmp x):=λx hx=>by
   simp only[Fr.ev,e1 x];rw[bh (λe=>(hpa x e).1 hx)]
  have dp':Does P Γ ops p f' t':=by
   have ag:∀{θ K a},Agr ops θ K f' a p.o->Agr ops θ K f a p.o:=λh=>h.congr s1 hev;refine⟨λθ K a ha=>dp.guard θ K a (ag ha),?_⟩;rcases dp.does with h1|⟨w1,c1,fa1,r1⟩|⟨w1,fa1,n1,b,ob,c1,gg1,v1,r1⟩|⟨w1,fa1,n1,b,ob,old,c1,gg1,v1,r1⟩
   .exact .inl h1
   .refine .inr (.inl ⟨w1,c1,λfc hfc=>?_,λθ K a ha=>r1 θ K a (ag ha)⟩);cases hg:g fc.blk with
    |true=>exact(fa1 fc hfc).congr (g1 _ hg)
    |false=>exact(hfa p (ak ..) fc hfc hg).congr (g2 _ hg)
   .exact .inr (.inr (.inl ⟨w1,fa1,n1,b,ob,c1,by rw[g1 b (hch p (ak ..) b ob c1)];exact gg1,v1,λθ K a ha=>r1 θ K a (ag ha)⟩))
   .exact .inr (.inr (.inr ⟨w1,fa1,n1,b,ob,old,c1,by rw[g1 b (hch p (ak ..) b ob c1)];exact gg1,v1,λX w0 θ K a h w ha=>r1 X w0 θ K a h w (ag ha)⟩))
  obtain⟨f1',hf1'⟩:=kl f' p (λx hx=>by rw[s1];exact fp.lt x hx);obtain⟨t1',ht1'⟩:=mq t' p;refine⟨dp',f1',t1',hf1',ht1',ih hr (by rw[hf1'.sz,s1,fp.sz]) s2 (by rw[hf1'.marks];exact m1) (λx=>?_) e2 (λq hq=>hap q (am _ hq)) (λb hb=>?_) (λb hb=>?_) g3 g4
   (λq hq=>hch q (am _ hq)) λq hq=>hfa q (am _ hq)⟩
  .rw[hf1'.tmps x,e1 x,fp.tmps x];by_cases h1:p.o.dst=some x
   .rw[bi h1,bh (λe=>(hpa x e).2 h1),bi h1]
   .rw[bh h1,bh h1]
  .rw[ht1' b,hc b];cases p.chg with
   |none=>exact g1 b hb
   |some c=>obtain⟨b',ob⟩:=c;simp only;split
            .rfl
            .exact g1 b hb
  .rw[ht1' b];cases hcc:p.chg with
   |none=>exact g2 b hb
   |some c=>
    obtain⟨b',ob⟩:=c;simp only;rw[bh (λe=>by rw[e,hch p (ak ..) b' ob hcc]at hb;cases hb)];exact g2 b hb
end
structure Pair(p q:Rec):Prop where
 ne:p.i≠q.i
 no:(depsOf p.o).testBit q.i=false
 apart:p.desc.testBit q.i=true\/((∀b ob,p.chg=some (b,ob)->¬q.on b)/\(∀b ob,q.chg=some (b,ob)->¬p.on b))
structure WF(ops:Array Oper)(M:Nat)(held:List Held)(n0:Nat)(hp:Hp)(pd:List Rec):Prop where
 op:∀p∈pd,ops[p.i]? =some p.o/\M.testBit p.i=true
 deps:∀p∈pd,∀k,(depsOf p.o).testBit k=true->M.testBit k=true
 desc:∀p∈pd,p.desc=descOf p.i ops.toList 0 0
 held:∀p∈pd,(p.facts≠[]\/p.chg≠none)->∃x∈held,x.desc=p.desc/\x.facts=p.facts/\x.chg=p.chg
 pair:pd.Pairwise Pair
 new:∀p∈pd,p.new=true->∀b ob,p.chg=some (b,ob)->n0<=b/\b<hp.next
 next:n0<=hp.next
theorem g6{i b:Nat}:∀{held:List Held},hidden i held b=true↔∃x∈held,x.desc.testBit i=false/\∃ob,x.chg=some (b,ob):=by
 intro held
 induction held with
 |nil=>simp[hidden]
 |cons x l ih=>
  simp only[hidden,Bool.or_eq_true,ih,aD,exists_eq_or_imp];refine or_congr ?_ Iff.rfl;cases hc:x.chg with
  |none=>simp
  |some c=>
   obtain⟨b',ob⟩:=c;simp only[a8,Bool.not_eq_true',a7,ap];constructor
   .rintro⟨h1,h2⟩;exact⟨h1,ob,(eq_of_beq h2).symm,rfl⟩
   .rintro⟨h1,ob',h2,_⟩;exact⟨h1,fl h2.symm⟩
theorem g7{i b:Nat}:∀{held:List Held} {t:T AObj},(hide i held t).get b=bif hidden i held b then none else t.get b:=by
 intro held
 induction held with
 |nil=>intro t;simp[hide,hidden]
 |cons x l ih=>
  intro t;obtain⟨desc,facts,chg⟩:=x;cases chg with
  |none=>simp only[hide,hidden,ih,Bool.false_or]
  |some c=>
   obtain⟨b',ob⟩:=c;simp only[hide,hidden];cases hd:desc.testBit i with
   |true=>simp only[bf,ih,Bool.not_true,Bool.false_and,Bool.false_or]
   |false=>
    simp only[bg,ih,T.get_put,Bool.not_false,aI];by_cases e:b=b'
    .rw[bi e,fl e];cases hidden i l b<;>rfl
    .rw[bh e,fH e];rfl
theorem lm{i b:Nat}:∀{held:List Held},cE i b held=true->∀x∈held,x.desc.testBit i=false->∀f∈x.facts,f.blk≠b:=by
 intro held
 induction held with
 |nil=>intro _ x hx;cases hx
 |cons y l ih=>
  intro h x hx hd f hf;simp only[cE,a8]at h;rcases aD.1 hx with rfl|hx
  .rw[hd]at h;simp only[bg]at h;have:=aE.1 h.1 f hf;simp only[Bool.not_eq_true']at this;exact ej this
  .exact ih h.2 x hx hd f hf
section
variable {P:Program}{Γ:Env}{ops:Array Oper}
theorem sE{o:Oper}{x:Tmp}(h:.tmp x∈o.op.operands):x∈o.looksAt ops:=by
 unfold Oper.looksAt;exact aK _ (List.mem_filterMap.2 ⟨.tmp x,by simpa using h,rfl⟩)
theorem wE{o:Oper}{j:Nat}{want:Bool}{t:Tmp}(hg:o.guard=some (j,want))(ht:(ops[j]?).bind (·.dst)=some t):t∈o.looksAt ops:=by
 unfold Oper.looksAt;refine aO _ ?_;rw[hg];simp[ht]
theorem Agr.on{θ:Ren}{K:Nat->Prop}{f:Fr}{a:Act}{o:Oper}(h:Agr ops θ K f a o):pK θ K f a o:=λx hx=>by
 cases x with
 |tmp t=>exact h.2 t (sE hx)
 |const v=>exact⟨rfl,trivial⟩
 |global g=>exact⟨rfl,trivial⟩
 |func f=>exact⟨rfl,trivial⟩
theorem Agr.wanted{θ:Ren}{K:Nat->Prop}{f:Fr}{a:Act}{o:Oper}{b:Bool}(h:Agr ops θ K f a o)(hw:cL ops f o=some b):Region.wanted o (yielded ops a.tmps)=b:=
 l6 hw h.1 λ_ _ t hg ht=>(h.2 t (wE hg ht)).1
theorem ql{f g:Fr}{p:Rec}(h:f.put p.o.dst p.v=some g):FPut f p g:=by
 unfold Fr.put at h;split at h
 .rename_i hd;simp only[a7]at h;subst h;exact⟨rfl,rfl,λt=>by rw[hd,bh (by simp)],λd he=>by rw[hd]at he;cases he⟩
 .rename_i d hd;cases hlt:Nat.blt d f.sz with
  |false=>rw[hlt]at h;cases h
  |true=>
   rw[hlt]at h;simp only[bf,a7]at h;subst h;exact⟨rfl,rfl,λt=>by
    simp only[T.get_set,hd,a7];by_cases e:t=d
    .rw[bi e,bi e.symm]
    .rw[bh e,bh (λe'=>e e'.symm)],λd' he=>by rw[hd]at he;cases he;exact ca hlt⟩
theorem WF.snoc{M n0:Nat}{held held':List Held}{hp hp':Hp}{pd:List Rec}{p:Rec}(h:WF ops M held n0 hp pd)(hop:ops[p.i]? =some p.o)(hM:M.testBit p.i=false)
 (hdeps:∀k,(depsOf p.o).testBit k=true->M.testBit k=true) (hdesc:p.desc=descOf p.i ops.toList 0 0) (hsub:∀x∈held,x∈held')
 (hheld:(p.facts≠[]\/p.chg≠none)->∃x∈held',x.desc=p.desc/\x.facts=p.facts/\x.chg=p.chg) (hnx:hp.next<=hp'.next) (hnew:p.new=true->∀b ob,p.chg=some (b,ob)->hp.next<=b/\b<hp'.next)
 (hvis:∀b,p.on b->hidden p.i held b=false) (hlean:∀b ob,p.chg=some (b,ob)->∀x∈held,x.desc.testBit p.i=false->∀f∈x.facts,f.blk≠b):
 WF ops (M|||2^p.i) held' n0 hp' (pd++[p]):=by
 have keep:∀k,M.testBit k=true->(M|||2^p.i).testBit k=true:=λk hk=>by rw[eN,hk];rfl
 have inv:∀q∈pd++[p],q∈pd\/q=p:=λq hq=>by
  rcases List.mem_append.1 hq with h1|h1
  .exact .inl h1
  .exact .inr (List.mem_singleton.1 h1)
 refine⟨λq hq=>?_,λq hq k hk=>?_,λq hq=>?_,λq hq hne=>?_,?_,λq hq hn b ob hc=>?_,Nat.le_trans h.next hnx⟩
 .rcases inv q hq with h1|rfl
  .exact⟨(h.op q h1).1,keep _ (h.op q h1).2⟩
  .exact⟨hop,by rw[eN];simp⟩
 .rcases inv q hq with h1|rfl
  .exact keep _ (h.deps q h1 k hk)
  .exact keep _ (hdeps k hk)
 .rcases inv q hq with h1|rfl
  .exact h.desc q h1
  .exact hdesc
 .rcases inv q hq with h1|rfl
  .obtain⟨x,hx,e⟩:=h.held q h1 hne;exact⟨x,hsub x hx,e⟩
  .exact hheld hne
 .rw[List.pairwise_append];refine⟨h.pair,List.pairwise_singleton _ _,λq hq r hr=>?_⟩;rw[List.mem_singleton.1 hr];refine⟨λe=>?_,?_,?_⟩
  .have:=(h.op q hq).2;rw[e,hM]at this;cases this
  .cases hd:(depsOf q.o).testBit p.i with
   |false=>rfl
   |true=>have:=h.deps q hq _ hd;rw[hM]at this;cases this
  .cases hdq:q.desc.testBit p.i with
   |true=>exact .inl rfl
   |false=>
    refine .inr ⟨λb ob hc hon=>?_,λb ob hc hon=>?_⟩
    .obtain⟨x,hx,e1,_,e3⟩:=h.held q hq (.inr (by rw[hc];simp));have:=g6.2 ⟨x,hx,by rw[e1];exact hdq,ob,by rw[e3];exact hc⟩;rw[hvis b hon]at this;cases this
    .rcases hon with⟨f,hf,hfb⟩|⟨ob',hc'⟩
     .obtain⟨x,hx,e1,e2,_⟩:=h.held q hq (.inl (λe=>by rw[e]at hf;cases hf));exact hlean b ob hc x hx (by rw[e1];exact hdq) f (by rw[e2];exact hf) hfb
     .obtain⟨x,hx,e1,_,e3⟩:=h.held q hq (.inr (by rw[hc'];simp));have:=g6.2 ⟨x,hx,by rw[e1];exact hdq,ob',by rw[e3];exact hc'⟩;rw[hvis b (.inr ⟨ob,hc⟩)]at this;cases this
 .rcases inv q hq with h1|rfl
  .have:=h.new q h1 hn b ob hc;exact⟨this.1,aM this.2 hnx⟩
  .have:=hnew hn b ob hc;exact⟨Nat.le_trans h.next this.1,this.2⟩
structure Took(P:Program)(Γ:Env)(ops:Array Oper)(M n0:Nat)(hp:Hp)(pd:List Rec)(f:Fr)(t:T AObj)(r:Nat×List Held×Fr×Hp)(ts:List Rec):Prop where
 wf:WF ops r.1 r.2.1 n0 r.2.2.2 (pd++ts)
 chain:Chain P Γ ops (pd++ts) f t r.2.2.1 r.2.2.2.objs
 next:hp.next<=r.2.2.2.next
 mask:∀j,r.1.testBit j=true↔M.testBit j=true\/∃p∈ts,p.i=j
 fresh:∀p∈ts,M.testBit p.i=false
 new:∀p∈ts,p.new=true->∀b ob,p.chg=some (b,ob)->hp.next<=b
 freshGet:∀b,r.2.2.2.next<=b->r.2.2.2.objs.get b=none
 heldLt:∀x∈r.2.1,∀b ob,x.chg=some (b,ob)->b<r.2.2.2.next
theorem sL{n0:Nat}{f:Fr}{t:T AObj}(L:List Oper):∀{i:Nat} {M:Nat} {held:List Held} {fr:Fr} {hp:Hp} {pd:List Rec} {r:Nat×List Held×Fr×Hp},
 (∀m,L[m]? =ops[i+m]?)->ct P Γ ops L i M held fr hp=some r->WF ops M held n0 hp pd->Chain P Γ ops pd f t fr hp.objs->(∀b,hp.next<=b->hp.objs.get b=none)->(∀x∈held,∀b ob,x.chg=some (b,ob)->b<hp.next)->∃ts,Took P Γ ops M n0 hp pd f t r ts:=by
 induction L with
 |nil=>
  intro i M held fr hp pd r _ hq hwf hch hfresh hheldlt;simp only[ct,a7]at hq;subst hq;exact⟨[],by simpa using hwf,by simpa using hch,av _,λj=>by simp,λp hp=>(by cases hp),λp hp=>(by cases hp),hfresh,hheldlt⟩
 |cons o L ih=>
  intro i M held fr hp pd r hl hq hwf hch hfresh hheldlt;have h0:ops[i]? =some o:=(hl 0).symm;have hl':∀k,L[k]? =ops[i+1+k]? :=λk=>by have:=hl (k+1);rw[List.getElem?_cons_succ]at this;rw[this];congr 1;omega
  simp only[ct]at hq;have more:∀(p:Rec) (held':List Held) (fr':Fr) (hp':Hp),p.i=i->p.o=o->M.testBit i=false->WF ops (M|||2^i) held' n0 hp' (pd++[p])->Chain P Γ ops (pd++[p]) f t fr' hp'.objs->hp.next<=hp'.next->
   (p.new=true->∀b ob,p.chg=some (b,ob)->hp.next<=b)->(∀b,hp'.next<=b->hp'.objs.get b=none)->(∀x∈held',∀b ob,x.chg=some (b,ob)->b<hp'.next)->ct P Γ ops L (i+1) (M|||2^i) held' fr' hp'=some r->∃ts,Took P Γ ops M n0 hp pd f t r ts:=by
   intro p held' fr' hp' hpi hpo hM hwf' hch' hnx hnew hfr' hlt' hrest;obtain⟨ts,h1,h2,h3,h4,h5,h6,h7,h8⟩:=ih hl' hrest hwf' hch' hfr' hlt';refine⟨p::ts,by simpa using h1,by simpa using h2,Nat.le_trans hnx h3,λj=>?_,λq hq=>?_,λq hq hn b ob hc=>?_,h7,h8⟩
   .rw[h4 j,eN,Bool.or_eq_true,ba];simp only[aD,exists_eq_or_imp,hpi];rw[or_assoc]
   .rcases aD.1 hq with rfl|hq
    .rw[hpi];exact hM
    .have:=h5 q hq;rw[eN,Bool.or_eq_false_iff]at this;exact this.1
   .rcases aD.1 hq with rfl|hq
    .exact hnew hn b ob hc
    .exact Nat.le_trans hnx (h6 q hq hn b ob hc)
  cases hM:M.testBit i with
  |true=>rw[hM]at hq;exact ih hl' hq hwf hch hfresh hheldlt
  |false=>
   rw[hM]at hq;simp only[bg]at hq;cases hd:Nat.beq (Nat.land (depsOf o) M) (depsOf o)with
   |false=>rw[hd]at hq;exact ih hl' hq hwf hch hfresh hheldlt
   |true=>
    rw[hd]at hq;simp only[bf]at hq;have hdeps:∀k,(depsOf o).testBit k=true->M.testBit k=true:=λk hk=>E0 hd k hk;split at hq
    .cases hq
    .
     rename_i hw;split at hq
     .rename_i g hput
      let p:Rec:=⟨i,o,false,.lit undef,[],none,false,descOf i ops.toList 0 0⟩
      have hdoes:Does P Γ ops p fr hp.objs:=⟨λθ K a ha=>ha.wanted hw,.inl ⟨rfl,rfl,rfl,rfl⟩⟩;refine more p held g hp rfl rfl hM (hwf.snoc (p:=p) h0 hM hdeps rfl (λx hx=>hx) (λh=>h.elim (λh=>absurd rfl h) λh=>absurd rfl h) (av _) (λh=>by cases h) (λb hb=>?_) (λb ob hc=>by cases hc))
       (hch.snoc pd hdoes (ql (p:=p) hput) λb=>rfl) (av _) (λh=>by cases h) hfresh hheldlt hq
      rcases hb with⟨_,hf,_⟩|⟨_,hc⟩
      .cases hf
      .cases hc
     .cases hq
    .rename_i hw;split at hq
     .
      rename_i v fs hquiet;split at hq
      .rename_i g hput
       let p:Rec:=⟨i,o,true,v,fs,none,false,descOf i ops.toList 0 0⟩
       have hfacts:∀f∈fs,fI ⟨hide i held hp.objs,hp.next⟩ f:=by
        rcases ku hquiet with hquiet|⟨rfl,_⟩
        .exact pc hquiet
        .exact λf hf=>by cases hf
       have hvisf:∀fc∈fs,hidden i held fc.blk=false/\FactT hp.objs fc:=λfc hfc=>by
        have hA:=hfacts fc hfc;have hne:(hide i held hp.objs).get fc.blk≠none:=by
         cases fc with
         |cells b off vs=>
          intro hn;simp only[fI,knownCells]at hA;rw[show(hide i held hp.objs).get b=none from hn]at hA;cases hA
         |obj b ob=>
          intro hn;simp only[fI]at hA;rw[show(hide i held hp.objs).get b=none from hn]at hA;cases hA
        rw[g7]at hne;cases hh:hidden i held fc.blk with
        |true=>rw[hh]at hne;exact absurd rfl hne
        |false=>
         refine⟨rfl,(FactT.ofA hA).congr ?_⟩;simp only[g7,hh];rfl
       have hdoes:Does P Γ ops p fr hp.objs:=⟨λθ K a ha=>ha.wanted hw,.inr (.inl ⟨rfl,rfl,λfc hfc=>(hvisf fc hfc).2,λθ K a ha hA=>by
        rcases ku hquiet with hquiet|⟨rfl,hask⟩
        .exact⟨λhok=>DN hquiet (λx hx=>(ha.on x hx).2) hok,λw hg hfw=>by
          rw[eM (re hquiet).1 ha.on];exact oY hquiet hg hfw⟩
        .obtain⟨hvk,hsel,_,hrun⟩:=hA _ _ _ hask λx hx=>(ha.on x hx).2;exact⟨λ_=>hvk,λw _ _=>by rw[eM hsel ha.on];exact hrun o w rfl⟩⟩)⟩
       have hvis:∀b,p.on b->hidden i held b=false:=λb hb=>by
        rcases hb with⟨fc,hfc,rfl⟩|⟨_,hc⟩
        .exact(hvisf fc hfc).1
        .cases hc
       have hchain:=hch.snoc pd hdoes (ql (p:=p) hput) (hp':=hp.objs) λb=>rfl;cases fs with
       |nil=>
        exact more p held g hp rfl rfl hM (hwf.snoc (p:=p) h0 hM hdeps rfl (λx hx=>hx) (λh=>h.elim (λh=>absurd rfl h) λh=>absurd rfl h) (av _) (λh=>by cases h) hvis (λb ob hc=>by cases hc))
         hchain (av _) (λh=>by cases h) hfresh hheldlt hq
       |cons fc fs=>
        exact more p (⟨descOf i ops.toList 0 0,fc::fs,none⟩::held) g hp rfl rfl hM (hwf.snoc (p:=p) h0 hM hdeps rfl (λx hx=>am _ hx) (λ_=>⟨_,ak ..,rfl,rfl,rfl⟩) (av _) (λh=>by cases h) hvis (λb ob hc=>by cases hc))
         hchain (av _) (λh=>by cases h) hfresh (λx hx b ob hc=>by
          rcases aD.1 hx with rfl|hx
          .cases hc
          .exact hheldlt x hx b ob hc) hq
      .cases hq
     .split at hq
      .
       rename_i v b ob nx hloc;cases hlean:cE i b held with
       |false=>rw[hlean]at hq;exact ih hl' hq hwf hch hfresh hheldlt
       |true=>
        rw[hlean]at hq;simp only[bf]at hq;have hsel:isSelect o.op=false:=by
         cases hop:o.op<;>first|rfl|(rw[hop]at hloc;simp only[fF]at hloc;cases hloc)
        split at hq
        .rename_i g hput;rcases vS (P:=P) (Γ:=Γ) hloc with⟨hb,hnx,hv,hobok,hrun⟩|⟨hnx,hv,old,hget,hrun⟩
         .
          have hb':b=hp.next:=hb;have hnx':nx=hp.next+1:=hnx;subst hb' hnx'
          let p:Rec:=⟨i,o,true,v,[],some (hp.next,ob),true,descOf i ops.toList 0 0⟩
          have hfreshget:hp.objs.get hp.next=none:=hfresh hp.next (av _);have hdoes:Does P Γ ops p fr hp.objs:=⟨λθ K a ha=>ha.wanted hw,.inr (.inr (.inl ⟨rfl,rfl,rfl,hp.next,ob,rfl,hfreshget,hv,λθ K a ha=>⟨hobok K λx hx=>(ha.on x hx).2,λw=>by
           rw[eM hsel ha.on];exact hrun θ w⟩⟩))⟩
          have hnohide:hidden i held hp.next=false:=by
           cases hh:hidden i held hp.next with
           |false=>rfl
           |true=>
            obtain⟨x,hx,_,ob',hc⟩:=g6.1 hh;exact absurd (hheldlt x hx hp.next ob' hc) (Nat.lt_irrefl _)
          refine more p (⟨descOf i ops.toList 0 0,[],some (hp.next,ob)⟩::held) g ⟨hp.objs.set hp.next ob,hp.next+1⟩ rfl rfl hM (hwf.snoc (p:=p) h0 hM hdeps rfl (λx hx=>am _ hx) (λ_=>⟨_,ak ..,rfl,rfl,rfl⟩) (Nat.le_succ _)
           (λ_ b' ob' hc=>by cases hc;exact⟨av _,aq _⟩) (λb' hb'=>?_) (λb' ob' hc=>by cases hc;exact lm hlean))
           (hch.snoc pd hdoes (ql (p:=p) hput) λb'=>T.get_set _ _ _ _) (Nat.le_succ _) (λ_ b' ob' hc=>by cases hc;exact av _) (λb' hb'=>?_) (λx hx b' ob' hc=>?_) hq
          .rcases hb' with⟨_,hf,_⟩|⟨_,hc⟩
           .cases hf
           .cases hc;exact hnohide
          .show(hp.objs.set hp.next ob).get b'=none;rw[T.get_set,bh (λe=>by rw[e]at hb';exact absurd hb' (Nat.not_succ_le_self _))];exact hfresh b' (Nat.le_of_succ_le hb')
          .rcases aD.1 hx with rfl|hx
           .cases hc;exact aq _
           .exact Nat.lt_succ_of_lt (hheldlt x hx b' ob' hc)
         .
          have hnx':nx=hp.next:=hnx;subst hnx' hv
          let p:Rec:=⟨i,o,true,.lit undef,[],some (b,ob),false,descOf i ops.toList 0 0⟩
          have hne:(hide i held hp.objs).get b≠none:=by rw[show(hide i held hp.objs).get b=some old from hget];simp
          have hnohide:hidden i held b=false:=by
           rw[g7]at hne;cases hh:hidden i held b with
           |true=>rw[hh]at hne;exact absurd rfl hne
           |false=>rfl
          have hgetb:hp.objs.get b=some old:=by
           have:=hget;simp only[g7,hnohide]at this;exact this
          have hdoes:Does P Γ ops p fr hp.objs:=⟨λθ K a ha=>ha.wanted hw,.inr (.inr (.inr ⟨rfl,rfl,rfl,b,ob,old,rfl,hgetb,rfl,λX w0 θ K a h w ha hr hb=>by
           rw[eM hsel ha.on];exact hrun X w0 θ K h w hr hb λx hx=>(ha.on x hx).2⟩))⟩
          have hblt:b<hp.next:=by
           rcases Nat.lt_or_ge b hp.next with h|h
           .exact h
           .rw[hfresh b h]at hgetb;cases hgetb
          refine more p (⟨descOf i ops.toList 0 0,[],some (b,ob)⟩::held) g ⟨hp.objs.set b ob,hp.next⟩ rfl rfl hM (hwf.snoc (p:=p) h0 hM hdeps rfl (λx hx=>am _ hx) (λ_=>⟨_,ak ..,rfl,rfl,rfl⟩) (av _)
           (λh=>by cases h) (λb' hb'=>?_) (λb' ob' hc=>by cases hc;exact lm hlean))
           (hch.snoc pd hdoes (ql (p:=p) hput) λb'=>T.get_set _ _ _ _) (av _) (λh=>by cases h) (λb' hb'=>?_) (λx hx b' ob' hc=>?_) hq
          .rcases hb' with⟨_,hf,_⟩|⟨_,hc⟩
           .cases hf
           .cases hc;exact hnohide
          .show(hp.objs.set b ob).get b'=none;rw[T.get_set,bh (λe=>by rw[e]at hb';exact absurd hblt (Nat.not_lt.2 hb'))];exact hfresh b' hb'
          .rcases aD.1 hx with rfl|hx
           .cases hc;exact hblt
           .exact hheldlt x hx b' ob' hc
        .cases hq
      .exact ih hl' hq hwf hch hfresh hheldlt
end
theorem Aq{x y:Value}(h:dr x y=true):x=y:=by
 unfold dr at h;split at h
 .simp only[a8,beq_iff_eq]at h;obtain⟨rfl,rfl⟩:=h;rfl
 .simp only[beq_iff_eq]at h;subst h;rfl
 .rename_i a b;simp only[beq_iff_eq]at h;obtain⟨⟨l⟩⟩:=a;obtain⟨⟨m⟩⟩:=b;simp only at h;subst h;rfl
 .rfl
 .simp only[a8,beq_iff_eq]at h;obtain⟨rfl,rfl⟩:=h;rfl
 .simp only[a8]at h;obtain⟨⟨h1,h3⟩,h4⟩:=h;rw[of_decide_eq_true h1,aj h3,aj h4]
 .rw[of_decide_eq_true h]
 .rfl
 .rfl
 .rfl
 .rw[aj h]
 .cases h
mutual
theorem same_eq:∀(a b:SV),SV.same a b=true->a=b
 | .lit x,b,h=>by
   cases b with
   |lit y=>rw[Aq (x:=x) (y:=y) h]
   |_=>cases h
 | .ptr _ _,b,h=>by
   cases b<;>first|(cases h;done)|(simp only[SV.same,a8,beq_iff_eq]at h;obtain⟨rfl,rfl⟩:=h;rfl)
 | .slice _ _ _ _,b,h=>by
   cases b<;>first|(cases h;done)|(simp only[SV.same,a8,beq_iff_eq]at h;obtain⟨⟨⟨rfl,rfl⟩,rfl⟩,rfl⟩:=h;rfl)
 | .row _ _ _ _ _,b,h=>by
   cases b<;>first|(cases h;done)|(simp only[SV.same,a8,beq_iff_eq]at h;obtain⟨⟨⟨⟨rfl,rfl⟩,rfl⟩,rfl⟩,rfl⟩:=h;rfl)
 | .map _,b,h=>by
   cases b<;>first|(cases h;done)|(simp only[SV.same,beq_iff_eq]at h;subst h;rfl)
 | .agg l,b,h=>by
   cases b with
   |agg m=>rw[jO l m h]
   |_=>cases h
 | .num _ _,b,h=>by
   cases b<;>first|(cases h;done)|(simp only[SV.same,a8,beq_iff_eq]at h;obtain⟨rfl,rfl⟩:=h;rfl)
 | .opq _,b,h=>by
   cases b<;>first|(cases h;done)|(simp only[SV.same,beq_iff_eq]at h;subst h;rfl)
 | .func fn a c,b,h=>by
   cases b with
   |func gn a' c'=>
    cases fn<;>cases gn<;>first|(cases h;done)|skip
    simp only[SV.same,a8]at h;rw[aj h.1,jO a a' h.2.1,jO c c' h.2.2]
   |_=>cases fn<;>cases h
 | .tail _ _ _ _,b,h=>by cases b<;>cases h
 | .yield _,b,h=>by cases b<;>cases h
 | .iface t v,b,h=>by
   cases b with
   |iface u v'=>
    simp only[SV.same,a8]at h;rw[aj h.1,same_eq v v' h.2]
   |_=>cases h
 | .tuple l,b,h=>by
   cases b with
   |tuple m=>rw[jO l m h]
   |_=>cases h
theorem jO:∀(l m:List SV),SV.sameL l m=true->l=m
 |[],[],_=>rfl
 |a::l,b::m,h=>by
  simp only[SV.sameL,a8]at h;rw[same_eq a b h.1,jO l m h.2]
 |[],_::_,h=>by cases h
 |_::_,[],h=>by cases h
end
theorem kN:∀(l m:List (SV×SV×Nat)),jh l m=true->l=m
 |[],[],_=>rfl
 |(k,v,c)::l,(k',v',c')::m,h=>by
  simp only[jh,a8]at h;rw[same_eq k k' h.1.1.1,same_eq v v' h.1.1.2,eq_of_beq h.1.2,kN l m h.2]
 |[],_::_,h=>by cases h
 |_::_,[],h=>by cases h
theorem pB{h:Hp}{f:Fact}(hf:eW h f=true):FactT h.objs f:=by
 cases f with
 |cells b off vs=>
  simp only[eW]at hf;split at hf
  .rename_i ws hws;rw[<-jO vs ws hf]at hws;exact hws
  .cases hf
 |obj b o=>
  cases o with
  |map es c=>
   simp only[eW]at hf;split at hf
   .rename_i es' c' hg;rw[a8]at hf;rw[<-eq_of_beq hf.1,<-kN es es' hf.2]at hg;exact hg
   .cases hf
  |_=>cases hf
theorem o4{i:Nat}{t r:T AObj}:∀{held:List Held} {acc t':T AObj},fG i t r held acc=some t'->(∀b,hidden i held b=true->r.get b=none/\t'.get b=t.get b)/\(∀b,hidden i held b=false->t'.get b=acc.get b):=by
 intro held
 induction held with
 |nil=>intro acc t' h;simp only[fG,a7]at h;subst h;exact⟨λb hb=>(by cases hb),λb _=>rfl⟩
 |cons x l ih=>
  intro acc t' h;obtain⟨desc,facts,chg⟩:=x;cases chg with
  |none=>
   simp only[fG]at h;obtain⟨h1,h2⟩:=ih h;exact⟨λb hb=>h1 b (by simpa[hidden]using hb),λb hb=>h2 b (by simpa[hidden]using hb)⟩
  |some c=>
   obtain⟨b',ob⟩:=c;simp only[fG]at h;cases hd:desc.testBit i with
   |true=>
    rw[hd]at h;obtain⟨h1,h2⟩:=ih h;exact⟨λb hb=>h1 b (by simpa[hidden,hd]using hb),λb hb=>h2 b (by simpa[hidden,hd]using hb)⟩
   |false=>
    rw[hd]at h;simp only[bg]at h;split at h
    .cases h
    .rename_i hr;obtain⟨h1,h2⟩:=ih h;refine⟨λb hb=>?_,λb hb=>?_⟩
     .cases hl:hidden i l b with
      |true=>exact h1 b hl
      |false=>
       simp only[hidden,hd,hl,Bool.not_false,aI,Bool.or_false]at hb;have e:=eq_of_beq hb;subst e;exact⟨hr,by rw[h2 b hl,T.get_put,bi rfl]⟩
     .simp only[hidden,hd,Bool.not_false,aI,Bool.or_eq_false_iff]at hb;rw[h2 b hb.2,T.get_put,bh (ej hb.1)]
theorem sw{i:Nat}{t s r:T AObj}:∀{held:List Held} {acc t':T AObj},fG i t r held acc=some t'->∀acc',∃s',fG i s r held acc'=some s':=by
 intro held
 induction held with
 |nil=>intro acc t' _ acc';exact⟨acc',rfl⟩
 |cons x l ih=>
  intro acc t' h acc';obtain⟨desc,facts,chg⟩:=x;cases chg with
  |none=>simp only[fG]at h⊢;exact ih h acc'
  |some c=>
   obtain⟨b',ob⟩:=c;simp only[fG]at h⊢;cases hd:desc.testBit i with
   |true=>rw[hd]at h;exact ih h acc'
   |false=>
    rw[hd]at h;simp only[bg]at h⊢;split at h
    .cases h
    .exact ih h _
theorem pA{r:Hp}{i:Nat}{all:List Held}:∀{held:List Held},dx r i all held=true->∀x∈held,x.desc.testBit i=false->∀f∈x.facts,hidden i all f.blk=false->FactT r.objs f:=by
 intro held
 induction held with
 |nil=>intro _ x hx;cases hx
 |cons y l ih=>
  intro h x hx hd f hf hh;simp only[dx,a8]at h;rcases aD.1 hx with rfl|hx
  .rw[hd]at h;simp only[bg]at h;have:=aE.1 h.1 f hf;rw[hh,Bool.false_or]at this;exact pB this
  .exact ih h.2 x hx hd f hf hh
theorem wR{i:Nat}:∀{held:List Held} {x:Held},x∈drop i held↔x∈held/\x.desc.testBit i=false:=by
 intro held
 induction held with
 |nil=>intro x;simp[drop]
 |cons y l ih=>
  intro x;simp only[drop];cases hd:y.desc.testBit i with
  |true=>
   simp only[bf,ih,aD];constructor
   .rintro⟨h1,h2⟩;exact⟨.inr h1,h2⟩
   .rintro⟨rfl|h1,h2⟩
    .rw[hd]at h2;cases h2
    .exact⟨h1,h2⟩
  |false=>
   simp only[bg,aD,ih];constructor
   .rintro(rfl|⟨h1,h2⟩)
    .exact⟨.inl rfl,hd⟩
    .exact⟨.inr h1,h2⟩
   .rintro⟨rfl|h1,h2⟩
    .exact .inl rfl
    .exact .inr ⟨h1,h2⟩
theorem nD{mask:Nat}:∀{L:List Oper} {i0:Nat} {j:Nat} {o:Oper},(j,o)∈dE mask L i0↔∃m,j=i0+m/\L[m]? =some o/\mask.testBit j=false/\Nat.beq (Nat.land (depsOf o) mask) (depsOf o)=true:=by
 intro L
 induction L with
 |nil=>intro i0 j o;simp[dE]
 |cons x L ih=>
  intro i0 j o;simp only[dE];have hrec:(j,o)∈dE mask L (i0+1)↔∃m,j=i0+(m+1)/\L[m]? =some o/\mask.testBit j=false/\Nat.beq (Nat.land (depsOf o) mask) (depsOf o)=true:=by
   rw[ih];constructor
   .rintro⟨m,h1,h2⟩;exact⟨m,by omega,h2⟩
   .rintro⟨m,h1,h2⟩;exact⟨m,by omega,h2⟩
  cases hc: !mask.testBit i0&&Nat.beq (Nat.land (depsOf x) mask) (depsOf x)with
  |true=>
   simp only[bf,aD,ap,hrec];rw[a8,Bool.not_eq_true']at hc;constructor
   .rintro(⟨rfl,rfl⟩|⟨m,h1,h2⟩)
    .exact⟨0,rfl,rfl,hc⟩
    .exact⟨m+1,h1,by simpa using h2⟩
   .rintro⟨m,h1,h2,h3⟩;cases m with
    |zero=>simp only[List.getElem?_cons_zero,a7]at h2;exact .inl ⟨h1,h2.symm⟩
    |succ m=>exact .inr ⟨m,h1,by simpa using h2,h3⟩
  |false=>
   simp only[bg,hrec];constructor
   .rintro⟨m,h1,h2⟩;exact⟨m+1,h1,by simpa using h2⟩
   .rintro⟨m,h1,h2,h3⟩;cases m with
    |zero=>
     simp only[List.getElem?_cons_zero,a7]at h2;subst h2;rw[Nat.add_zero]at h1;subst h1;rw[h3.1,h3.2]at hc;cases hc
    |succ m=>exact⟨m,h1,by simpa using h2,h3⟩
section
variable {P:Program}{Γ:Env}{ops:Array Oper}{X:Nat->Prop}{w0:World}
def Done(M:Nat)(pd:List Rec)(j:Nat):Prop:=M.testBit j=true/\∀p∈pd,p.i≠j
structure Inv(P:Program)(Γ:Env)(ops:Array Oper)(X:Nat->Prop)(w0:World)(n0:Nat)(θ:Ren)(K:Nat->Prop)(M:Nat)(held:List Held)(fr:Fr)(hp:Hp)(pd:List Rec)(f:Fr)(t:T AObj)(a:Act)(w:World)(listed:Array Bool):Prop where
 wf:WF ops M held n0 hp pd
 chain:Chain P Γ ops pd f t fr hp.objs
 fr:FRep θ K f a
 rep:Rep Γ X w0 θ K ⟨t,hp.next⟩ w
 newK:∀p∈pd,p.new=true->∀b ob,p.chg=some (b,ob)->¬K b
 freshGet:∀b,hp.next<=b->hp.objs.get b=none
 heldLt:∀x∈held,∀b ob,x.chg=some (b,ob)->b<hp.next
 size:listed.size=ops.size
 listed:∀j,j<ops.size->(listed.getD j true=true↔Done M pd j)
 closed:∀j o,ops[j]? =some o->Done M pd j->∀k,(depsOf o).testBit k=true->Done M pd k
 mask:∀j,M.testBit j=true->j<ops.size
theorem Rep.teq{θ:Ren}{K:Nat->Prop}{t t':T AObj}{n:Nat}{w:World}(h:∀b,t'.get b=t.get b)(hr:Rep Γ X w0 θ K ⟨t,n⟩ w):Rep Γ X w0 θ K ⟨t',n⟩ w:=
 ⟨hr.os,hr.tape,hr.output,hr.size,hr.kept,hr.low,hr.glob,λb o hb=>hr.obj b o ((h b).symm.trans hb),λb b' o o' hb hb'=>hr.inj b b' o o' ((h b).symm.trans hb) ((h b').symm.trans hb'),hr.next,hr.inv⟩
theorem FRep.putR{θ:Ren}{K:Nat->Prop}{f g:Fr}{a:Act}{p:Rec}(hf:FRep θ K f a)(hp:FPut f p g)(hv:p.v.ok K):FRep θ K g (a.put p.o.dst (conc θ p.v)):=by
 cases hd:p.o.dst with
 |none=>
  refine⟨⟨hf.tmps.1.trans hp.sz.symm,λx=>?_⟩,λx v hx=>?_,by rw[hp.marks];exact hf.marks,by rw[hp.marks];exact hf.marksOk⟩
  .rw[hp.tmps x,hd,bh (by simp)];exact hf.tmps.2 x
  .rw[hp.tmps x,hd,bh (by simp)]at hx;exact hf.ok x v hx
 |some d=>
  have hlt:=hp.lt d hd;refine⟨⟨by simp[Act.put,hf.tmps.1,hp.sz],λx=>?_⟩,λx v hx=>?_,by rw[hp.marks];exact hf.marks,by rw[hp.marks];exact hf.marksOk⟩
  .rw[hp.tmps x,hd];simp only[Act.put,a7];by_cases e:d=x
   .subst e;have:d<a.tmps.size:=by rw[hf.tmps.1];exact hlt
    simp[this]
   .rw[bh e];have:=hf.tmps.2 x;simp only[Array.getD_eq_getD_getElem?]at this⊢;rw[Array.getElem?_setIfInBounds_ne e];exact this
  .rw[hp.tmps x,hd]at hx;by_cases e:d=x
   .rw[bi (by rw[e])]at hx;cases hx;exact hv
   .rw[bh (λe'=>e (ab e'))]at hx;exact hf.ok x v hx
theorem FRep.agr{θ:Ren}{K:Nat->Prop}{f:Fr}{a:Act}(hf:FRep θ K f a)(o:Oper):Agr ops θ K f a o:=⟨hf.tmps.1,λt _=>⟨hf.tmps.2 t,hf.evOk (.tmp t)⟩⟩
theorem GK{K:Nat->Prop}{t:T AObj}{fc:Fact}(hf:FactT t fc)(hh:∀b o,t.get b=some o->o.ok K):fc.ok K:=by
 cases fc with
 |cells b off vs=>
  simp only[FactT,fI,aJ]at hf;obtain⟨l,hl,hc⟩:=hf;obtain⟨o,ho,hcase⟩:=nW hl;have:=hh b o ho;rcases hcase with⟨e,rfl⟩|⟨e,k,cv,s,rfl⟩
  .exact fP this λv hv=>fw hc hv
  .exact fP this.1 λv hv=>fw hc hv
 |obj b o=>exact hh b o hf
theorem wu{F:Fence}{n i:Nat}{a:Act}{w:World}{N N':Act->World->Prop}{Q Q':Exit->Act->World->Prop}(h:∀a w,N a w->N' a w)(hQ:∀e a w,Q e a w->Q' e a w)(hh:wpOpIn F n P ops Q i N a w):wpOpIn F n P ops Q' i N' a w:=by
 unfold wpOpIn at*;split
 .exact h _ _ (by simpa[*]using hh)
 .rename_i o ho;simp only[ho]at hh;split
  .rename_i hw;simp only[hw,if_true]at hh;exact qM h hQ hh
  .rename_i hw;simp only[hw]at hh;exact⟨hh.1,h _ _ hh.2⟩
theorem nE{F:Fence}{n:Nat}{md:Region.Mode}{Q Q':Exit->Act->World->Prop}(hQ:∀e a w,Q e a w->Q' e a w):∀(fuel:Nat) (listed:Array Bool) (a:Act) (w:World),wpAnyIn F n P md ops Q fuel listed a w->wpAnyIn F n P md ops Q' fuel listed a w:=by
 intro fuel
 induction fuel with
 |zero=>intro listed a w h;exact⟨h.1,hQ _ _ _ h.2⟩
 |succ fuel ih=>intro listed a w h;exact⟨λh0=>hQ _ _ _ (h.1 h0),λi hi=>wu (ih _) hQ (h.2 i hi)⟩
theorem filter_lt{l:List Nat}{p q:Nat->Bool}(h:∀j∈l,q j=true->p j=true):(l.filter q).length<=(l.filter p).length/\((∃i∈l,p i=true/\q i=false)->(l.filter q).length<(l.filter p).length):=by
 induction l with
 |nil=>exact⟨av _,λ⟨_,h,_⟩=>by cases h⟩
 |cons x l ih=>
  obtain⟨h1,h2⟩:=ih λj hj=>h j (am _ hj);have hx:=h x (ak ..);cases hq:q x with
  |true=>
   rw[List.filter_cons_of_pos (by rw[hq]),List.filter_cons_of_pos (by rw[hx hq])];simp only[au];refine⟨by omega,λ⟨i,hi,hp,hn⟩=>?_⟩;rcases aD.1 hi with rfl|hi
   .rw[hq]at hn;cases hn
   .have:=h2 ⟨i,hi,hp,hn⟩;omega
  |false=>
   rw[List.filter_cons_of_neg (by rw[hq];simp)];cases hp:p x with
   |true=>
    rw[List.filter_cons_of_pos (by rw[hp])];simp only[au];exact⟨by omega,λ_=>by omega⟩
   |false=>
    rw[List.filter_cons_of_neg (by rw[hp];simp)];refine⟨h1,λ⟨i,hi,hp',hn⟩=>?_⟩;rcases aD.1 hi with rfl|hi
    .rw[hp]at hp';cases hp'
    .exact h2 ⟨i,hi,hp',hn⟩
def left(ops:Array Oper)(listed:Array Bool):Nat:=((List.range ops.size).filter λj=> !listed.getD j true).length
theorem yU{listed:Array Bool}{i:Nat}(hsz:listed.size=ops.size)(hi:i<ops.size)(hn:listed.getD i true=false):left ops (listed.setIfInBounds i true)<left ops listed:=by
 unfold left;refine(filter_lt λj _ hj=>?_).2 ⟨i,List.mem_range.2 hi,by rw[hn];rfl,?_⟩
 .by_cases e:i=j
  .subst e;simp[hsz,hi]at hj
  .rw[getD_set_ne true e]at hj;exact hj
 .simp[hsz,hi]
variable {n0:Nat}{θ:Ren}{K:Nat->Prop}{M:Nat}{held:List Held}{fr:Fr}{hp:Hp}{pd:List Rec}{f:Fr}{t:T AObj}{a:Act}{w:World}{listed:Array Bool}
theorem Inv.ready(hI:Inv P Γ ops X w0 n0 θ K M held fr hp pd f t a w listed)(fit:Fit ops){j:Nat}(hj:j∈Region.ready .any ops listed):∃o,ops[j]? =some o/\j<ops.size/\¬Done M pd j/\∀k,(depsOf o).testBit k=true->Done M pd k:=by
 obtain⟨h0,o,ho,hall⟩:=mem_ready.1 hj;have hlt:j<ops.size:=(Array.getElem?_eq_some_iff.1 ho).1;refine⟨o,ho,hlt,λhd=>?_,λk hk=>?_⟩
 .rw[(hI.listed j hlt).2 hd]at h0;cases h0
 .obtain⟨e,he,hb,rfl⟩:=(qj o k).1 hk;have hkj:=fit.low j o e.on ho hk;have h1:=hall e he hb;refine(hI.listed e.on bj).1 ?_;have hin:e.on<listed.size:=by rw[hI.size];omega
  simp[hin]at h1⊢;exact h1
theorem Inv.ofReady(hI:Inv P Γ ops X w0 n0 θ K M held fr hp pd f t a w listed)(fit:Fit ops){j:Nat}{o:Oper}(ho:ops[j]? =some o)(hn:¬Done M pd j)(hd:∀k,(depsOf o).testBit k=true->Done M pd k):j∈Region.ready .any ops listed:=by
 have hlt:j<ops.size:=(Array.getElem?_eq_some_iff.1 ho).1;refine mem_ready.2 ⟨?_,o,ho,λe he hb=>?_⟩
 .cases h:listed.getD j true with
  |false=>rfl
  |true=>exact absurd ((hI.listed j hlt).1 h) hn
 .have hk:=(qj o e.on).2 ⟨e,he,hb,rfl⟩;have hkj:=fit.low j o e.on ho hk;have:=(hI.listed e.on bj).2 (hd _ hk);have hin:e.on<listed.size:=by rw[hI.size];omega
  simp[hin]at this⊢;exact this
theorem Inv.notDesc(hI:Inv P Γ ops X w0 n0 θ K M held fr hp pd f t a w listed)(fit:Fit ops){p:Rec}(hp':p∈pd):∀(j:Nat) (o:Oper),ops[j]? =some o->(∀k,(depsOf o).testBit k=true->Done M pd k)->p.desc.testBit j=false:=by
 have sound:=uP p.i (ops:=ops) ops.toList 0 0 (λm=>by rw[aX,Array.getElem?_toList]) (λx hx=>by simp at hx);rw[<-hI.wf.desc p hp']at sound;have nd:¬Done M pd p.i:=λhd=>hd.2 p hp' rfl;have key:∀(n j:Nat),j<n->p.desc.testBit j=true->¬Done M pd j:=by
  intro n
  induction n with
  |zero=>intro j h;omega
  |succ n ih=>
   intro j hj hd hdone;obtain⟨o,ho,e,he,hcase⟩:=sound j hd;have hde:=hI.closed j o ho hdone e he;rcases hcase with rfl|h
   .exact nd hde
   .have:=fit.low j o e ho he;exact ih e bj h hde
 intro j o ho hdeps;cases hd:p.desc.testBit j with
 |false=>rfl
 |true=>
  obtain⟨o',ho',e,he,hcase⟩:=sound j hd;rw[ho]at ho';cases ho';have hde:=hdeps e he;rcases hcase with rfl|h
  .exact absurd hde nd
  .exact absurd hde (key (e+1) e (aq _) h)
theorem Pair.ind(fit:Fit ops){p q:Rec}(h:Pair p q)(hp:ops[p.i]? =some p.o)(hq:ops[q.i]? =some q.o)(hdesc:p.desc=descOf p.i ops.toList 0 0)(hd:p.desc.testBit q.i=false):Ind ops p q:=by
 have hno:(depsOf q.o).testBit p.i=false:=by
  cases hb:(depsOf q.o).testBit p.i with
  |false=>rfl
  |true=>
   have:=si p.i ops.toList 0 0 q.i q.o (by rw[Array.getElem?_toList];exact hq) hb;rw[aX,<-hdesc,hd]at this;cases this
 rcases h.apart with h1|⟨h1,h2⟩
 .rw[hd]at h1;cases h1
 .exact⟨λd he=>fit.apart p.i q.i p.o q.o hp hq h.ne hno h.no d he,λd he=>(fit.apart q.i p.i q.o p.o hq hp (Ne.symm h.ne) h.no hno d he).1,h1,h2⟩
end
section
variable {P:Program}{Γ:Env}{ops:Array Oper}{X:Nat->Prop}{w0:World}
def more(X:Nat->Prop)(g:Nat->Bool)(θ:Ren)(t:T AObj)(k:Nat):Prop:=X k\/∃b o,g b=true/\t.get b=some o/\k=θ.blk b
theorem Rep.part{θ:Ren}{K:Nat->Prop}{g:Nat->Bool}{t v:T AObj}{n:Nat}{w:World}(hr:Rep Γ X w0 θ K ⟨t,n⟩ w)(hv:∀b,v.get b=bif g b then none else t.get b):Rep Γ (more X g θ t) w θ K ⟨v,n⟩ w:=by
 have vis:∀b o,v.get b=some o->g b=false/\t.get b=some o:=λb o hb=>by
  rw[hv b]at hb;cases hg:g b with
  |true=>rw[hg]at hb;cases hb
  |false=>rw[hg]at hb;exact⟨rfl,hb⟩
 refine⟨rfl,rfl,rfl,av _,λ_ _=>rfl,λk hk=>?_,λx cs hx=>?_,λb o hb=>?_,λb b' o o' hb hb' e=>?_,hr.next,Γ.base hr.inv (λ_ h=>.inl h) hr.kept hr.size⟩
 .rcases hk with hk|⟨b,o,_,hb,rfl⟩
  .exact aM (hr.low k hk) hr.size
  .obtain⟨_,_,_,ob,hob,_⟩:=hr.obj b o hb;exact(Array.getElem?_eq_some_iff.1 hob).1
 .obtain⟨h1,e,fr,h2⟩:=hr.glob x cs hx;exact⟨.inl h1,e,fr,by rw[hr.kept x h1];exact h2⟩
 .obtain⟨hg,hb⟩:=vis b o hb;obtain⟨k1,k2,k3,k4⟩:=hr.obj b o hb;refine⟨k1,?_,k3,k4⟩;rintro(hx|⟨b',o',hg',hb',e⟩)
  .exact k2 hx
  .have:=hr.inj b b' o o' hb hb' e;subst this;rw[hg]at hg';cases hg'
 .exact hr.inj b b' o o' (vis b o hb).2 (vis b' o' hb').2 e
theorem Rep.whole{θ θ':Ren}{K K':Nat->Prop}{g:Nat->Bool}{t r t':T AObj}{n n':Nat}{w w':World}(hr:Rep Γ X w0 θ K ⟨t,n⟩ w)(hr':Rep Γ (more X g θ t) w θ' K' ⟨r,n'⟩ w')(hE:Ext K θ θ')(hm:∀i,K i->K' i)
 (h1:∀b,g b=true->t'.get b=t.get b) (h2:∀b,g b=false->t'.get b=r.get b):Rep Γ X w0 θ' K' ⟨t',n'⟩ w':=by
 refine⟨hr'.os.trans hr.os,hr'.tape.trans hr.tape,hr'.output.trans hr.output,Nat.le_trans hr.size hr'.size,λk hk=>(hr'.kept k (.inl hk)).trans (hr.kept k hk),hr.low,hr.glob,λb o hb=>?_,λb b' o o' hb hb' e=>?_,hr'.next,Γ.ext hr.inv hE hm⟩
 .cases hg:g b with
  |true=>
   have hb:t.get b=some o:=by rw[<-h1 b hg];exact hb
   obtain⟨k1,k2,k3,ob,k4,k5⟩:=hr.obj b o hb;refine⟨hm _ k1,by rw[hE.blk b k1];exact k2,AObj.ok_mono hm o k3,ob,?_,jW hE k3 k5⟩;rw[hE.blk b k1,hr'.kept _ (.inr ⟨b,o,hg,hb,rfl⟩)];exact k4
  |false=>
   have hb:r.get b=some o:=by rw[<-h2 b hg];exact hb
   obtain⟨k1,k2,k3,k4⟩:=hr'.obj b o hb;exact⟨k1,λhx=>k2 (.inl hx),k3,k4⟩
 .have cross:∀b b' o o',g b=true->g b'=false->t'.get b=some o->t'.get b'=some o'->θ'.blk b=θ'.blk b'->False:=λb b' o o' hg hg' hb hb' e=>by
   rw[h1 b hg]at hb;rw[h2 b' hg']at hb';obtain⟨_,k2,_⟩:=hr'.obj b' o' hb';refine k2 (.inr ⟨b,o,hg,hb,?_⟩);rw[<-e,hE.blk b (hr.obj b o hb).1]
  cases hg:g b with
  |true=>
   cases hg':g b' with
   |true=>
    have hb:t.get b=some o:=by rw[<-h1 b hg];exact hb
    have hb':t.get b'=some o':=by rw[<-h1 b' hg'];exact hb'
    rw[hE.blk b (hr.obj b o hb).1,hE.blk b' (hr.obj b' o' hb').1]at e;exact hr.inj b b' o o' hb hb' e
   |false=>exact(cross b b' o o' hg hg' hb hb' e).elim
  |false=>
   cases hg':g b' with
   |true=>exact(cross b' b o' o hg' hg hb' hb e.symm).elim
   |false=>
    have hb:r.get b=some o:=by rw[<-h2 b hg];exact hb
    have hb':r.get b'=some o':=by rw[<-h2 b' hg'];exact hb'
    exact hr'.inj b b' o o' hb hb' e
theorem Rep.later{θ:Ren}{K:Nat->Prop}{t:T AObj}{n n':Nat}{w:World}(hr:Rep Γ X w0 θ K ⟨t,n⟩ w)(h:n<=n'):Rep Γ X w0 θ K ⟨t,n'⟩ w:=
 ⟨hr.os,hr.tape,hr.output,hr.size,hr.kept,hr.low,hr.glob,hr.obj,hr.inj,λi hi=>hr.next i (Nat.le_trans h hi),hr.inv⟩
theorem FRep.feq{θ:Ren}{K:Nat->Prop}{f g:Fr}{a:Act}(hf:FRep θ K f a)(h:FEq f g):FRep θ K g a:=by
 refine⟨⟨hf.tmps.1.trans h.sz,λx=>?_⟩,λx v hx=>hf.ok x v ((h.tmps x).trans hx),by rw[<-h.marks];exact hf.marks,by rw[<-h.marks];exact hf.marksOk⟩;rw[<-h.tmps x];exact hf.tmps.2 x
theorem Chain.newNe{fr:Fr}{hp:T AObj}:∀(pd:List Rec) {f:Fr} {t:T AObj} {β:Nat} {o:AObj},Chain P Γ ops pd f t fr hp->t.get β=some o->∀q∈pd,q.new=true->∀b ob,q.chg=some (b,ob)->b≠β:=by
 intro pd
 induction pd with
 |nil=>intro f t β o _ _ q hq;cases hq
 |cons p pd ih=>
  intro f t β o h hβ q hq hn b ob hc;obtain⟨hd,f1,t1,_,hch,hr⟩:=h;rcases aD.1 hq with rfl|hq
  .rcases hd.does with⟨_,_,_,c⟩|⟨_,c,_⟩|⟨_,_,_,b',ob',c,g,_⟩|⟨_,_,n,_⟩
   .rw[hc]at c;cases c
   .rw[hc]at c;cases c
   .rw[hc]at c;cases c;intro e;rw[e,hβ]at g;cases g
   .rw[hn]at n;cases n
  .have hs:∃o',t1.get β=some o':=by
    rw[hch β];cases p.chg with
    |none=>exact⟨o,hβ⟩
    |some c=>
     obtain⟨b',ob'⟩:=c;simp only;split
     .exact⟨_,rfl⟩
     .exact⟨o,hβ⟩
   obtain⟨o',ho'⟩:=hs;exact ih hr ho' q hq hn b ob hc
theorem xj{a b:Nat}(h:∀k,a.testBit k=true->b.testBit k=true):Nat.beq (Nat.land a b) a=true:=by
 apply fl;apply Nat.eq_of_testBit_eq;intro i;show(a&&& b).testBit i=a.testBit i;rw[Nat.testBit_and];cases ha:a.testBit i with
 |false=>rfl
 |true=>rw[h i ha];rfl
def Passed(P:Program)(Γ:Env)(self:Task->R)(ops:Array Oper)(n M:Nat)(held:List Held)(fr:Fr)(hp:Hp)(outs:List Out):Prop:=
 (dE M ops.toList 0=[]->(⟨.normal,fr,hp,.lit undef⟩:Out)∈outs)/\∀io∈dE M ops.toList 0,∃x,iB P Γ self ops (drawn P Γ self ops n) M held fr hp io=some x/\∀y∈x,y∈outs
theorem Passed.of{self:Task->R}{n M:Nat}{held:List Held}{fr:Fr}{hp:Hp}{outs:List Out}(h:drawn P Γ self ops (n+1) M held fr hp=some outs):
 ∃x,ct P Γ ops ops.toList 0 M held fr hp=some x/\Passed P Γ self ops n x.1 x.2.1 x.2.2.1 x.2.2.2 outs:=by
 simp only[drawn]at h;split at h
 .cases h
 .rename_i x hx;refine⟨x,hx,?_⟩;split at h
  .rename_i hr;cases hb:Nat.beq x.1 (2^ops.size-1)with
   |false=>rw[hb]at h;cases h
   |true=>
    rw[hb]at h;simp only[bf,a7]at h;subst h;exact⟨λ_=>List.mem_singleton.2 rfl,λio hio=>by rw[hr]at hio;cases hio⟩
  .rename_i rs hne;exact⟨λe=>absurd e hne,λio hio=>fA h io hio⟩
variable {n0:Nat}{θ:Ren}{K:Nat->Prop}{M:Nat}{held:List Held}{fr:Fr}{hp:Hp}{pd:List Rec}{f:Fr}{t:T AObj}{a:Act}{w:World}{listed:Array Bool}
theorem Inv.pass(hI:Inv P Γ ops X w0 n0 θ K M held fr hp pd f t a w listed){x:Nat×List Held×Fr×Hp}(hx:ct P Γ ops ops.toList 0 M held fr hp=some x):∃pd',Inv P Γ ops X w0 n0 θ K x.1 x.2.1 x.2.2.1 x.2.2.2 pd' f t a w listed:=by
 obtain⟨ts,T⟩:=sL ops.toList (λm=>by rw[aX,Array.getElem?_toList]) hx hI.wf hI.chain hI.freshGet hI.heldLt;have hdone:∀j,Done x.1 (pd++ts) j↔Done M pd j:=λj=>by
  constructor
  .rintro⟨h1,h2⟩;refine⟨?_,λp hp=>h2 p (aK _ hp)⟩;rcases(T.mask j).1 h1 with h|⟨p,hp,e⟩
   .exact h
   .exact absurd e (h2 p (aO _ hp))
  .rintro⟨h1,h2⟩;refine⟨(T.mask j).2 (.inl h1),λp hp e=>?_⟩;rcases List.mem_append.1 hp with hp|hp
   .exact h2 p hp e
   .have:=T.fresh p hp;rw[e,h1]at this;cases this
 refine⟨pd++ts,T.wf,T.chain,hI.fr,hI.rep.later T.next,λp hp hn b ob hc=>?_,T.freshGet,T.heldLt,hI.size,λj hj=>?_,λj o ho hd k hk=>?_,λj hj=>?_⟩
 .rcases List.mem_append.1 hp with hp|hp
  .exact hI.newK p hp hn b ob hc
  .exact hI.rep.next b (T.new p hp hn b ob hc)
 .rw[hI.listed j hj,hdone]
 .exact(hdone k).2 (hI.closed j o ho ((hdone j).1 hd) k hk)
 .rcases(T.mask j).1 hj with h|⟨p,hp,e⟩
  .exact hI.mask j h
  .have:=(T.wf.op p (aO _ hp)).1;rw[e]at this;exact(Array.getElem?_eq_some_iff.1 this).1
theorem Inv.allDone(hI:Inv P Γ ops X w0 n0 θ K M held fr hp pd f t a w listed)(fit:Fit ops)(h0:Region.ready .any ops listed=[]):∀j,j<ops.size->Done M pd j:=by
 have key:∀n j,j<n->j<ops.size->Done M pd j:=by
  intro n
  induction n with
  |zero=>intro j h;omega
  |succ n ih=>
   intro j hj hlt;have ho:ops[j]? =some ops[j]:=Array.getElem?_eq_getElem hlt;refine Classical.byContradiction λhn=>?_;have:=hI.ofReady fit ho hn λk hk=>by
    have:=fit.low j _ k ho hk;exact ih k bj bj
   rw[h0]at this;cases this
 exact λj=>key (j+1) j (aq _)
theorem Inv.finish{self:Task->R}{n:Nat}{outs:List Out}(hI:Inv P Γ ops X w0 n0 θ K M held fr hp pd f t a w listed)(fit:Fit ops)(hP:Passed P Γ self ops n M held fr hp outs)(h0:Region.ready .any ops listed=[]):
 Post Γ X w0 θ K n0 outs .normal a w:=by
 have hall:=hI.allDone fit h0;have hpd:pd=[]:=by
  cases pd with
  |nil=>rfl
  |cons p l=>
   have hp:=(hI.wf.op p (ak ..)).1;exact absurd rfl ((hall p.i (Array.getElem?_eq_some_iff.1 hp).1).2 p (ak ..))
 subst hpd;have hr:dE M ops.toList 0=[]:=by
  cases hr:dE M ops.toList 0 with
  |nil=>rfl
  |cons io l=>
   obtain⟨j,o⟩:=io;obtain⟨m,e,ho,hb,_⟩:=nD.1 (show(j,o)∈dE M ops.toList 0 by rw[hr];exact ak ..);rw[aX]at e;subst e;rw[Array.getElem?_toList]at ho;rw[(hall j (Array.getElem?_eq_some_iff.1 ho).1).1]at hb;cases hb
 refine⟨_,hP.1 hr,θ,K,⟨Ext.refl _ _,λ_ h=>h,λ_ h=>.inl h,hI.wf.next⟩,rfl,hI.rep.teq λb=>(hI.chain.2 b).symm,hI.fr.feq hI.chain.1⟩
theorem yw(listed:Array Bool)(i j:Nat)(hi:i<listed.size):(listed.setIfInBounds i true).getD j true=if i=j then true else listed.getD j true:=by
 by_cases e:i=j
 .subst e;rw[bi rfl];simp[hi]
 .rw[bh e,getD_set_ne true e]
theorem Inv.comes(hI:Inv P Γ ops X w0 n0 θ K M held fr hp pd f t a w listed)(fit:Fit ops){p:Rec}{pre post:List Rec}(hpd:pd=pre++p::post)(hdeps:∀k,(depsOf p.o).testBit k=true->Done M pd k):
 Does P Γ ops p f t/\∃f1 t1,FPut f p f1/\IQ t p t1/\Chain P Γ ops (pre++post) f1 t1 fr hp.objs/\
  ∀θ' K' a' w',FRep θ' K' f1 a'->Rep Γ X w0 θ' K' ⟨t1,hp.next⟩ w'->(∀q∈pre++post,q.new=true->∀b ob,q.chg=some (b,ob)->¬K' b)->Inv P Γ ops X w0 n0 θ' K' M held fr hp (pre++post) f1 t1 a' w' (listed.setIfInBounds p.i true):=by
 subst hpd;have hmem:p∈pre++p::post:=by simp
 obtain⟨hpo,hpM⟩:=hI.wf.op p hmem;have hlt:p.i<ops.size:=(Array.getElem?_eq_some_iff.1 hpo).1;have hpair:=hI.wf.pair;have hsub:∀q∈pre++post,q∈pre++p::post:=λq hq=>by
  rcases List.mem_append.1 hq with h|h
  .exact aK _ h
  .exact aO _ (am _ h)
 rw[List.pairwise_append]at hpair;have hne:∀q∈pre++post,q.i≠p.i:=λq hq=>by
  rcases List.mem_append.1 hq with h|h
  .exact(hpair.2.2 q h p (ak ..)).ne
  .exact λe=>((List.pairwise_cons.1 hpair.2.1).1 q h).ne e.symm
 have hind:∀q∈pre,Ind ops q p:=λq hq=>(hpair.2.2 q hq p (ak ..)).ind fit (hI.wf.op q (aK _ hq)).1 hpo (hI.wf.desc q (aK _ hq))
  (hI.notDesc fit (aK _ hq) p.i p.o hpo hdeps)
 obtain⟨hd,f1,t1,hf1,ht1,hch⟩:=Chain.first pre hind hI.chain
 have hdone:∀j,Done M (pre++post) j↔j=p.i\/Done M (pre++p::post) j:=λj=>by
  constructor
  .rintro⟨h1,h2⟩;by_cases e:j=p.i
   .exact .inl e
   .refine .inr ⟨h1,λq hq=>?_⟩;rcases List.mem_append.1 hq with h|h
    .exact h2 q (aK _ h)
    .rcases aD.1 h with rfl|h
     .exact λe'=>e e'.symm
     .exact h2 q (aO _ h)
  .rintro(rfl|⟨h1,h2⟩)
   .exact⟨hpM,hne⟩
   .exact⟨h1,λq hq=>h2 q (hsub q hq)⟩
 refine⟨hd,f1,t1,hf1,ht1,hch,λθ' K' a' w' hf hr hk=>?_⟩;refine⟨⟨λq hq=>hI.wf.op q (hsub q hq),λq hq=>hI.wf.deps q (hsub q hq),λq hq=>hI.wf.desc q (hsub q hq),λq hq=>hI.wf.held q (hsub q hq),?_,λq hq=>hI.wf.new q (hsub q hq),hI.wf.next⟩,hch,hf,hr,hk,hI.freshGet,hI.heldLt,by rw[Array.size_setIfInBounds];exact hI.size,λj hj=>?_,λj o ho hdj k hkk=>?_,hI.mask⟩
 .rw[List.pairwise_append];exact⟨hpair.1,(List.pairwise_cons.1 hpair.2.1).2,λq hq r hr=>hpair.2.2 q hq r (am _ hr)⟩
 .rw[yw listed p.i j (by rw[hI.size];exact hlt),hdone];by_cases e:p.i=j
  .rw[bi e];simp[e]
  .rw[bh e,hI.listed j hj];exact⟨λh=>.inr h,λh=>h.resolve_left λe'=>e e'.symm⟩
 .rcases(hdone j).1 hdj with rfl|hdj
  .rw[hpo]at ho;cases ho;exact(hdone k).2 (.inr (hdeps k hkk))
  .exact(hdone k).2 (.inr (hI.closed j o ho hdj k hkk))
end
section
variable {P:Program}{Γ:Env}{ops:Array Oper}{X:Nat->Prop}{w0:World}{self:Task->R}
variable {n0:Nat}{θ:Ren}{K:Nat->Prop}{M:Nat}{held:List Held}{fr:Fr}{hp:Hp}{pd:List Rec}{f:Fr}{t:T AObj}{a:Act}{w:World}{listed:Array Bool}
theorem Inv.runAhead[AskOk P Γ](hI:Inv P Γ ops X w0 n0 θ K M held fr hp pd f t a w listed)(fit:Fit ops){r:Option Nat}{p:Rec}{pre post:List Rec}(hpd:pd=pre++p::post)(hdeps:∀k,(depsOf p.o).testBit k=true->Done M pd k)
 {next:Act->World->Prop} {Q:Exit->Act->World->Prop}
 (hnext:∀θ' K' f' t' a' w',Grow K θ n0 K' θ' n0->Inv P Γ ops X w0 n0 θ' K' M held fr hp (pre++post) f' t' a' w' (listed.setIfInBounds p.i true)->next a' w'):
 wpOpIn (G r) 0 P ops Q p.i next a w:=by
 have hmem:p∈pd:=by rw[hpd];simp
 have hsub:∀q∈pre++post,q∈pd:=λq hq=>by
  rw[hpd];rcases List.mem_append.1 hq with h|h
  .exact aK _ h
  .exact aO _ (am _ h)
 have hpo:=(hI.wf.op p hmem).1;obtain⟨hd,f1,t1,hf1,ht1,hch,hinv⟩:=hI.comes fit hpd hdeps;have hag:Agr ops θ K f a p.o:=hI.fr.agr p.o;have hw:=hd.guard θ K a hag;obtain⟨hsel,hdef⟩:=fit.sel p.i p.o hpo;unfold wpOpIn;simp only[hpo];rw[hw];have keepK:∀q∈pre++post,q.new=true->∀b ob,q.chg=some (b,ob)->¬K b:=λq hq=>hI.newK q (hsub q hq);rcases hd.does with⟨h1,h2,h3,h4⟩|⟨h1,h2,h3,h4⟩|⟨h1,h2,hn,b,ob,hc,hg,hv,h4⟩|⟨h1,h2,hn,b,ob,old,hc,hg,hv,h4⟩
 .rw[h1,bh (by simp)];refine⟨λf _=>uK r f,?_⟩;have ht:∀b,t1.get b=t.get b:=λb=>by rw[ht1 b,h4]
  have:=hI.fr.putR hf1 (by rw[h2];trivial);rw[h2]at this;exact hnext θ K f1 t1 _ w (Grow.refl _ _ _) (hinv θ K _ w this (hI.rep.teq ht) keepK)
 .rw[h1,bi rfl];refine⟨λf _=>uK r f,?_⟩;obtain⟨hok,hrun⟩:=h4 θ K a hag (AskOk.ok hI.rep.inv);rw[fe hdef,hrun w hI.rep.globW λfc hfc=>hI.rep.fact (h3 fc hfc).toA];have ht:∀b,t1.get b=t.get b:=λb=>by rw[ht1 b,h2]
  have hvok:p.v.ok K:=hok λfc hfc=>GK (h3 fc hfc) λb o hb=>(hI.rep.obj b o hb).2.2.1;exact hnext θ K f1 t1 _ w (Grow.refl _ _ _) (hinv θ K _ w (hI.fr.putR hf1 hvok) (hI.rep.teq ht) keepK)
 .rw[h1,bi rfl];refine⟨λf _=>uK r f,?_⟩;obtain⟨hok,hrun⟩:=h4 θ K a hag;obtain⟨ob',hrun,hO⟩:=hrun w;rw[fe hdef,hrun];obtain⟨hb1,hb2⟩:=hI.wf.new p hmem hn b ob hc;have hnk:¬K b:=hI.newK p hmem hn b ob hc;have hE:Ext K θ (θ.bind b w.heap.size 0):=Ren.bind_ext hnk;have hrep:Rep Γ X w0 (θ.bind b w.heap.size 0) (hJ K b) ⟨t.set b ob,hp.next⟩ (w.alloc ob'):=
   hI.rep.make (h:=⟨t,hp.next⟩) hnk hI.rep.next hb2 rfl rfl rfl rfl (AObj.ok_mono bW _ hok) (jW hE hok hO)
  have ht:∀x,t1.get x=(t.set b ob).get x:=λx=>by rw[ht1 x,hc,T.get_set]
  have hfr:=(hI.fr.ext hE bW).putR hf1 (ok_mono (λi e=>.inr e) _ hv);refine hnext _ _ f1 t1 _ _ ⟨hE,bW,λi hi=>?_,av _⟩ (hinv _ _ _ _ hfr (hrep.teq ht) λq hq hqn b' ob'' hc' hk=>?_)
  .rcases hi with h|rfl
   .exact .inl h
   .exact .inr hb1
  .rcases hk with h|e
   .exact keepK q hq hqn b' ob'' hc' h
   .exact Chain.newNe _ hch (β:=b) (o:=ob) (by rw[ht,T.get_set,bi rfl]) q hq hqn b' ob'' hc' e
 .rw[h1,bi rfl];refine⟨λf _=>uK r f,?_⟩;obtain⟨w',hrun,hrep⟩:=h4 X w0 θ K a ⟨t,hp.next⟩ w hag hI.rep hg;rw[fe hdef,hrun];have ht:∀x,t1.get x=(t.set b ob).get x:=λx=>by rw[ht1 x,hc,T.get_set]
  have hfr:=hI.fr.putR hf1 (by rw[hv];trivial);rw[hv]at hfr;exact hnext θ K f1 t1 _ w' (Grow.refl _ _ _) (hinv θ K _ w' hfr (Rep.teq ht hrep) keepK)
theorem Inv.runLoud[AskOk P Γ](hN:ed P)(hS:Sound P Γ self)(hI:Inv P Γ ops X w0 n0 θ K M held fr hp pd f t a w listed)(fit:Fit ops){r:Option Nat}{j:Nat}{o:Oper}(ho:ops[j]? =some o)(hM:M.testBit j=false)(hdeps:∀k,(depsOf o).testBit k=true->Done M pd k)
 {go:Nat->List Held->Fr->Hp->R} {outs:List Out} (hq:iB P Γ self ops go M held fr hp (j,o)=some outs)
 {next:Act->World->Prop} {Q:Exit->Act->World->Prop}
 (hnext:∀θ' K' fr' hp' f' t' a' w' outs',Grow K θ n0 K' θ' n0->Inv P Γ ops X w0 n0 θ' K' (M|||2^j) (drop j held) fr' hp' pd f' t' a' w' (listed.setIfInBounds j true)->go (M|||2^j) (drop j held) fr' hp'=some outs'->(∀y∈outs',y∈outs)->next a' w'):
 wpOpIn (G r) 0 P ops Q j next a w:=by
 have hlt:j<ops.size:=(Array.getElem?_eq_some_iff.1 ho).1;have hnd:∀p∈pd,p.desc.testBit j=false:=λp hp=>hI.notDesc fit hp j o ho hdeps;have hne:∀p∈pd,p.i≠j:=λp hp e=>by have:=(hI.wf.op p hp).2;rw[e,hM]at this;cases this
 have hap:∀p∈pd,(∀d,p.o.dst=some d->d∉o.looksAt ops/\o.dst≠some d)/\∀d,o.dst=some d->d∉p.o.looksAt ops/\p.o.dst≠some d:=λp hp=>by
  have hpo:=(hI.wf.op p hp).1;have h1:(depsOf o).testBit p.i=false:=by
   cases hb:(depsOf o).testBit p.i with
   |false=>rfl
   |true=>exact absurd rfl ((hdeps _ hb).2 p hp)
  have h2:(depsOf p.o).testBit j=false:=by
   cases hb:(depsOf p.o).testBit j with
   |false=>rfl
   |true=>have:=hI.wf.deps p hp j hb;rw[hM]at this;cases this
  exact⟨fit.apart p.i j p.o o hpo ho (hne p hp) h1 h2,fit.apart j p.i o p.o ho hpo (Ne.symm (hne p hp)) h2 h1⟩
 have hhid:∀p∈pd,∀b ob,p.chg=some (b,ob)->hidden j held b=true:=λp hp b ob hc=>by
  obtain⟨x,hx,e1,_,e3⟩:=hI.wf.held p hp (.inr (by rw[hc];simp));exact g6.2 ⟨x,hx,by rw[e1];exact hnd p hp,ob,by rw[e3];exact hc⟩
 have hvis:∀b,(hide j held hp.objs).get b=bif hidden j held b then none else t.get b:=λb=>by
  rw[g7];cases hh:hidden j held b with
  |true=>rfl
  |false=>
   simp only[bg];exact(Chain.block pd b hI.chain λp hp ob hc=>by rw[hhid p hp b ob hc]at hh;cases hh).symm
 have hsz:=Chain.size pd hI.chain;have hag:Agr ops θ K fr a o:=(hI.fr.agr o).congr hsz.1 λx hx=>Chain.slot pd x hI.chain λp hp e=>((hap p hp).1 x e).1 hx;unfold iB at hq;split at hq
 .rename_i hw;split at hq
  .cases hq
  .rename_i rs hloud;unfold wpOpIn;simp only[ho];rw[hag.wanted hw,bi rfl];have hpart:=hI.rep.part hvis;refine iR hN hS hloud hpart hag.on λx hx θ' K' w' hG hok hr'=>?_;obtain⟨y,hy,hm⟩:=fA hq x hx;split at hy
   .rename_i s f' hs hput;cases hst:dx x.2 j held held with
    |false=>rw[hst]at hy;cases hy
    |true=>
     rw[hst]at hy;simp only[bf]at hy;obtain⟨s1,s2⟩:=o4 hs;obtain⟨t',ht'⟩:=sw (s:=t) hs x.2.objs;obtain⟨t1,t2⟩:=o4 ht'
     let q:Rec:=⟨j,o,true,x.1,[],none,false,0⟩
     have hfp:FPut fr q f':=ql (p:=q) hput;obtain⟨f1,hf1⟩:=kl f q λd hd=>by rw[hsz.1];exact hfp.lt d hd
     have hfr':FRep θ' K' f1 (a.put o.dst (conc θ' x.1)):=(hI.fr.ext hG.ext hG.mono).putR hf1 hok;have hrep:Rep Γ X w0 θ' K' ⟨t',x.2.next⟩ w':=hI.rep.whole hr' hG.ext hG.mono (λb hb=>(t1 b hb).2) λb hb=>t2 b hb;have hle:hp.next<=x.2.next:=hG.le;have hdone:∀k,Done (M|||2^j) pd k↔k=j\/Done M pd k:=λk=>by
      unfold Done;rw[eN,Bool.or_eq_true,ba];constructor
      .rintro⟨h1|h1,h2⟩
       .exact .inr ⟨h1,h2⟩
       .exact .inl h1.symm
      .rintro(rfl|⟨h1,h2⟩)
       .exact⟨.inr rfl,hne⟩
       .exact⟨.inl h1,h2⟩
     have keep:∀k,M.testBit k=true->(M|||2^j).testBit k=true:=λk hk=>by rw[eN,hk];rfl
     refine hnext θ' K' f' ⟨s,x.2.next⟩ f1 t' _ w' y ⟨hG.ext,hG.mono,λi hi=>(hG.fresh i hi).imp id λh=>Nat.le_trans hI.wf.next h,av _⟩
      ⟨⟨λp hp=>⟨(hI.wf.op p hp).1,keep _ (hI.wf.op p hp).2⟩,λp hp k hk=>keep _ (hI.wf.deps p hp k hk),hI.wf.desc,λp hp h=>?_,hI.wf.pair,λp hp hn b ob hc=>?_,Nat.le_trans hI.wf.next hle⟩,?_,hfr',hrep,λp hp hn b ob hc hk=>?_,λb hb=>?_,λx' hx' b ob hc=>?_,
        by rw[Array.size_setIfInBounds];exact hI.size,λk hk=>?_,λk o' ho' hd e he=>?_,λk hk=>?_⟩ hy hm
     .obtain⟨x',hx',e⟩:=hI.wf.held p hp h;exact⟨x',wR.2 ⟨hx',by rw[e.1];exact hnd p hp⟩,e⟩
     .have:=hI.wf.new p hp hn b ob hc;exact⟨this.1,aM this.2 hle⟩
     .refine Chain.rebase (g:=hidden j held) (d:=o.dst) (v:=x.1) (r:=x.2.objs) pd hI.chain hf1.sz hfp.sz (by rw[hf1.marks,hfp.marks];exact hsz.2) hf1.tmps hfp.tmps (λp hp d hd=>(hap p hp).2 d hd) (λb hb=>(t1 b hb).2) (λb hb=>t2 b hb) (λb hb=>(s1 b hb).2) (λb hb=>s2 b hb) hhid λp hp fc hfc hg=>?_;obtain⟨x',hx',e1,e2,_⟩:=hI.wf.held p hp (.inl λe=>by rw[e]at hfc;cases hfc);exact pA hst x' hx' (by rw[e1];exact hnd p hp) fc (by rw[e2];exact hfc) hg
     .rcases hG.fresh b hk with h|h
      .exact hI.newK p hp hn b ob hc h
      .exact absurd (hI.wf.new p hp hn b ob hc).2 (Nat.not_lt.2 h)
     .have hb:x.2.next<=b:=hb;cases hh:hidden j held b with
      |true=>
       obtain⟨x',hx',_,ob,hc⟩:=g6.1 hh;have:=hI.heldLt x' hx' b ob hc;omega
      |false=>
       show s.get b=none;rw[s2 b hh];cases hg:x.2.objs.get b with
       |none=>rfl
       |some ob=>exact absurd (hr'.obj b ob hg).1 (hr'.next b hb)
     .exact aM (hI.heldLt x' (wR.1 hx').1 b ob hc) hle
     .rw[yw listed j k (by rw[hI.size];exact hlt),hdone];by_cases e:j=k
      .rw[bi e];simp[e]
      .rw[bh e,hI.listed k hk];exact⟨λh=>.inr h,λh=>h.resolve_left λe'=>e e'.symm⟩
     .rcases(hdone k).1 hd with rfl|hd
      .rw[ho]at ho';cases ho';exact(hdone e).2 (.inr (hdeps e he))
      .exact(hdone e).2 (.inr (hI.closed k o' ho' hd e he))
     .rw[eN,Bool.or_eq_true,ba]at hk;rcases hk with hk|rfl
      .exact hI.mask k hk
      .exact hlt
   .cases hy
 .cases hq
theorem Ep[AskOk P Γ](hN:ed P)(hS:Sound P Γ self)(fit:Fit ops){r:Option Nat}:∀(fuel:Nat) {n M:Nat} {held:List Held} {fr:Fr} {hp:Hp} {pd:List Rec} {f:Fr} {t:T AObj} {a:Act} {w:World} {listed:Array Bool} {θ:Ren} {K:Nat->Prop} {outs:List Out},
 Inv P Γ ops X w0 n0 θ K M held fr hp pd f t a w listed->Passed P Γ self ops n M held fr hp outs->left ops listed<=fuel->wpAnyIn (G r) 0 P .any ops (Post Γ X w0 θ K n0 outs) fuel listed a w:=by
 intro fuel
 induction fuel with
 |zero=>
  intro n M held fr hp pd f t a w listed θ K outs hI hP hl;have h0:Region.ready .any ops listed=[]:=by
   cases hr:Region.ready .any ops listed with
   |nil=>rfl
   |cons j l=>
    have hj:j∈Region.ready .any ops listed:=by rw[hr];exact ak ..
    obtain⟨o,ho,hlt,hnd,_⟩:=hI.ready fit hj;have hf:listed.getD j true=false:=(mem_ready.1 hj).1;have:=yU (listed:=listed) hI.size hlt hf;omega
  exact⟨h0,hI.finish fit hP h0⟩
 |succ fuel ih=>
  intro n M held fr hp pd f t a w listed θ K outs hI hP hl;refine⟨λh0=>hI.finish fit hP h0,λj hj=>?_⟩;obtain⟨o,ho,hlt,hnd,hdeps⟩:=hI.ready fit hj;have hlf:=yU (listed:=listed) hI.size hlt (mem_ready.1 hj).1;cases hM:M.testBit j with
  |true=>
   have hex:∃p∈pd,p.i=j:=Classical.byContradiction λh=>hnd ⟨hM,λp hp e=>h ⟨p,hp,e⟩⟩;obtain⟨p,hp',rfl⟩:=hex;have hpo:=(hI.wf.op p hp').1;rw[ho]at hpo;cases hpo;obtain⟨pre,post,hpd⟩:=List.append_of_mem hp';refine hI.runAhead fit hpd hdeps λθ' K' f' t' a' w' hG hI'=>?_;exact nE (λe a w h=>h.trans hG λy hy=>hy) _ _ _ _ (ih hI' hP bj)
  |false=>
   have hr:(j,o)∈dE M ops.toList 0:=nD.2 ⟨j,(aX j).symm,by rw[Array.getElem?_toList];exact ho,hM,xj λk hk=>(hdeps k hk).1⟩;obtain⟨xs,hx,hm⟩:=hP.2 _ hr;refine hI.runLoud hN hS fit ho hM hdeps hx λθ' K' fr' hp' f' t' a' w' outs' hG hI' hgo hm'=>?_;cases n with
   |zero=>cases hgo
   |succ n=>
    obtain⟨y,hy,hP'⟩:=Passed.of hgo;obtain⟨pd',hI''⟩:=hI'.pass hy;exact nE (λe a w h=>h.trans hG λz hz=>hm z (hm' z hz)) _ _ _ _ (ih hI'' hP' bj)
theorem wX[AskOk P Γ](hN:ed P)(hS:Sound P Γ self)(hmix:P.follows .mixedOrders=true){r:Option Nat}{id n:Nat}{fr:Fr}{hp:Hp}{outs:List Out}{θ:Ren}{K:Nat->Prop}{a:Act}{w:World}(hfit:eJ ops ops.toList 0=true)
 (hq:drawn P Γ self ops n 0 [] fr hp=some outs) (hr:Rep Γ X w0 θ K hp w) (hf:FRep θ K fr a):(Code.region id ops true).wpIn (G r) 0 P (Post Γ X w0 θ K hp.next outs) a w:=by
 refine wpIn_region_any hmix ?_;cases n with
 |zero=>cases hq
 |succ n=>
  obtain⟨y,hy,hP⟩:=Passed.of hq;have hI:Inv P Γ ops X w0 hp.next θ K 0 [] fr hp [] fr hp.objs a {w with drawn:=w.drawn+1} (Array.replicate ops.size false):=
   ⟨⟨λp h=>(by cases h),λp h=>(by cases h),λp h=>(by cases h),λp h=>(by cases h),List.Pairwise.nil,λp h=>(by cases h),av _⟩,⟨⟨rfl,rfl,λ_=>rfl⟩,λ_=>rfl⟩,hf,hr.same rfl rfl rfl rfl,
    λp h=>(by cases h),λb hb=>by
     cases hg:hp.objs.get b with
     |none=>rfl
     |some o=>exact absurd (hr.obj b o hg).1 (hr.next b hb),λx h=>(by cases h),Array.size_replicate,λj hj=>by simp[Done,hj],λj o _ hd=>by simp[Done]at hd,λj hj=>by simp at hj⟩
  obtain⟨pd',hI'⟩:=hI.pass hy;refine Ep hN hS (Fit.of hfit) ops.size hI' hP ?_;unfold left;exact Nat.le_trans (List.length_filter_le ..) (by rw[List.length_range];exact av _)
end
theorem sO{F:Fence}{n:Nat}{P:Program}{c:Code}{Q Q':Exit->Act->World->Prop}(hq:∀e a w,Q e a w->Q' e a w):∀(m:Nat) (a:Act) (w:World),Code.roundsIn F n P c Q m a w->Code.roundsIn F n P c Q' m a w:=by
 intro m
 induction m with
 |zero=>intro a w h;exact h
 |succ m ih=>
  intro a w h;refine wpIn_mono h λe a w he=>?_;cases e<;>first|exact ih _ _ he|exact hq _ _ _ he
section
variable {P:Program}{Γ:Env}{X:Nat->Prop}{w0:World}{self:Task->R}
def rU(P:Program)(Γ:Env)(m:Nat)(self:Task->R):Prop:=
 ∀c ro fr hp outs,self (.code (.loop c) ro fr hp)=some outs->∀X w0 θ K a w,Rep Γ X w0 θ K hp w->FRep θ K fr a->(∀l,ro=some l->K l)->Code.roundsIn (G (ro.map θ.blk)) 0 P c (Post Γ X w0 θ K hp.next outs) m a w
theorem qO{K K':Nat->Prop}{θ θ':Ren}{n n':Nat}{ro:Option Nat}(hG:Grow K θ n K' θ' n')(hro:∀l,ro=some l->K l):ro.map θ'.blk=ro.map θ.blk/\∀l,ro=some l->K' l:=by
 cases ro with
 |none=>exact⟨rfl,λl h=>by cases h⟩
 |some l=>exact⟨by simp only[af,hG.ext.blk l (hro l rfl)],λl' h=>hG.mono _ (hro l' h)⟩
theorem rk{f:Fr->Hp->R}{outs outs':List Out}(hs:kU f outs=some outs'){θ:Ren}{K:Nat->Prop}{n:Nat}{next:Act->World->Prop}
 (hn:∀θ' K' fr hp ys a w,Grow K θ n K' θ' hp.next->f fr hp=some ys->(∀y∈ys,y∈outs')->Rep Γ X w0 θ' K' hp w->FRep θ' K' fr a->next a w):
 ∀e a w,Post Γ X w0 θ K n outs e a w->Exit.then next (Post Γ X w0 θ K n outs') e a w:=by
 intro e a w ⟨o,ho,θ',K',hG,he,hr,hf⟩;obtain⟨ys,hy,hm⟩:=fA hs o ho;obtain⟨ex,fr,hp,v⟩:=o;cases ex with
 |normal=>rw[he];exact hn θ' K' fr hp ys a w hG hy hm hr hf
 |ret=>
  simp only[a7]at hy;subst hy;rw[he];exact⟨_,hm _ (List.mem_singleton.2 rfl),θ',K',hG,rfl,hr,hf⟩
 |exit id=>
  simp only[a7]at hy;subst hy;rw[he];exact⟨_,hm _ (List.mem_singleton.2 rfl),θ',K',hG,rfl,hr,hf⟩
theorem rD(hS:Sound P Γ self){m:Nat}(hL:rU P Γ m self){c:Code}{ro:Option Nat}{fr:Fr}{hp:Hp}{outs:List Out}(hq:bO P Γ self (.code (.loop c) ro fr hp)=some outs){θ:Ren}{K:Nat->Prop}{a:Act}{w:World}
 (hr:Rep Γ X w0 θ K hp w) (hf:FRep θ K fr a) (hro:∀l,ro=some l->K l):Code.roundsIn (G (ro.map θ.blk)) 0 P c (Post Γ X w0 θ K hp.next outs) (m+1) a w:=by
 simp only[bO]at hq;split at hq
 .rename_i o1 h1;refine wpIn_mono (hS.code c ro fr hp o1 h1 X w0 θ K a w hr hf hro) ?_;refine rk hq λθ' K' fr' hp' ys a' w' hG hy hm hr' hf'=>?_;obtain⟨e1,e2⟩:=qO hG hro;have:=hL c ro fr' hp' ys hy X w0 θ' K' a' w' hr' hf' e2;rw[e1]at this;exact sO (λe a w h=>h.trans hG hm) _ _ _ this
 .cases hq
theorem zH{F:Fence}{n:Nat}{P:Program}{Q:Exit->Act->World->Prop}{a:Act}{w:World}{c:Code}(h:c.wpIn F n P Q a w)(hg:∀l a w,¬Q (.goto l) a w):(Code.scope c).wpIn F n P Q a w:=by
 intro b k cs hro hb hr;have s1:step P (lone (b.atR a (.code (.scope c)::k)) cs w)=.next (lone (b.atR a (.code c::.inScope c::k)) cs w):=step_lone_go (by simp[stepG,stepG.exec,Frame.atR]);have s2:∀a w,step P (lone (b.atR a (.inScope c::k)) cs w)=.next (lone (b.atR a k) cs w):=λa w=>step_lone_go (by simp[stepG,stepG.exec,Frame.atR]);have h0:(lone (b.atR a (.code (.scope c)::k)) cs w).fenced P F:=fenced_calm hb hr rfl;obtain⟨e,a₁,w₁,hq,harr⟩:=h b (.inScope c::k) cs hro hb hr;cases e with
 |normal=>exact⟨.normal,a₁,w₁,hq,.head h0 s1 (StepsIn.trans harr (.one (fenced_calm hb hr rfl) (s2 _ _)))⟩
 |exit id=>
  have hx:exitTo id (.inScope c::k)=exitTo id k:=by simp[exitTo]
  exact⟨.exit id,a₁,w₁,hq,λk' hk=>.head h0 s1 (harr.1 k' (by rw[hx];exact hk)),λhr' hk=>let⟨k₁,h1,h2⟩:=harr.2 hr' (by rw[hx];exact hk);⟨k₁,h1,.head h0 s1 h2⟩⟩
 |goto l=>exact(hg l _ _ hq).elim
 |ret=>exact⟨_,a₁,w₁,hq,.of_steps (.one h0 s1) harr⟩
 |panic ch=>exact⟨_,a₁,w₁,hq,.of_steps (.one h0 s1) harr⟩
 |outgrown=>exact⟨_,a₁,w₁,hq,.of_steps (.one h0 s1) harr⟩
theorem AI[AskOk P Γ](hN:ed P)(hmix:P.follows .mixedOrders=true)(hS:Sound P Γ self){m:Nat}(hL:rU P Γ m self){c:Code}{ro:Option Nat}{fr:Fr}{hp:Hp}{outs:List Out}(hq:bO P Γ self (.code c ro fr hp)=some outs)
 {θ:Ren} {K:Nat->Prop} {a:Act} {w:World} (hr:Rep Γ X w0 θ K hp w) (hf:FRep θ K fr a) (hro:∀l,ro=some l->K l)
 (hrange:∀g ps assign body,c=.rangeFunc g ps assign body->c.wpIn (G (ro.map θ.blk)) 0 P (Post Γ X w0 θ K hp.next outs) a w):c.wpIn (G (ro.map θ.blk)) 0 P (Post Γ X w0 θ K hp.next outs) a w:=by
 have one:∀e,some [(⟨e,fr,hp,.lit undef⟩:Out)]=some outs->Post Γ X w0 θ K hp.next outs e.conc a w:=λe h=>by
  simp only[a7]at h;subst h;exact⟨_,List.mem_singleton.2 rfl,θ,K,Grow.refl _ _ _,rfl,hr,hf⟩
 cases c with
 |skip=>exact wpIn_skip (one .normal hq)
 |label l=>exact wpIn_label (one .normal hq)
 |ret=>exact wpIn_ret (one .ret hq)
 |exit id=>exact wpIn_exit (one (.exit id) hq)
 |seq x y=>
  simp only[bO]at hq;split at hq
  .rename_i o1 h1;refine wpIn_seq (wpIn_mono (hS.code x ro fr hp o1 h1 X w0 θ K a w hr hf hro) ?_);refine rk hq λθ' K' fr' hp' ys a' w' hG hy hm hr' hf'=>?_;obtain⟨e1,e2⟩:=qO hG hro;have:=hS.code y ro fr' hp' ys hy X w0 θ' K' a' w' hr' hf' e2;rw[e1]at this;exact wpIn_mono this λe a w h=>h.trans hG hm
  .cases hq
 |cond x y z=>
  simp only[bO]at hq;split at hq
  .rename_i hv;exact wpIn_cond_true (by rw[hf.ev,hv];rfl) (hS.code y ro fr hp outs hq X w0 θ K a w hr hf hro)
  .rename_i hv;exact wpIn_cond_false (by rw[hf.ev,hv];rfl) (hS.code z ro fr hp outs hq X w0 θ K a w hr hf hro)
  .cases hq
 |block id x=>
  simp only[bO]at hq;split at hq
  .rename_i o1 h1;simp only[a7]at hq;refine wpIn_block (wpIn_mono (hS.code x ro fr hp o1 h1 X w0 θ K a w hr hf hro) ?_);rintro e a' w' ⟨o,ho,θ',K',hG,rfl,hr',hf'⟩;have hmem:∀y,(match o.exit with
    | .exit k=>bif Nat.beq k id then{o with exit:=.normal}else o
    |_=>o)=y->y∈outs:=λy hy=>by rw[<-hq];exact List.mem_map.2 ⟨o,ho,hy⟩
   obtain⟨ex,fr',hp',v⟩:=o;cases ex with
   |normal=>exact⟨_,hmem _ rfl,θ',K',hG,rfl,hr',hf'⟩
   |ret=>exact⟨_,hmem _ rfl,θ',K',hG,rfl,hr',hf'⟩
   |exit k=>
    simp only[SExit.conc,Exit.inBlock];by_cases e:k=id
    .rw[bi e];exact⟨_,hmem ⟨.normal,fr',hp',v⟩ (by simp only[fl e,bf]),θ',K',hG,rfl,hr',hf'⟩
    .rw[bh e];exact⟨_,hmem ⟨.exit k,fr',hp',v⟩ (by simp only[fH e,bg]),θ',K',hG,rfl,hr',hf'⟩
  .cases hq
 |loop x=>exact wpIn_loop_rounds (m+1) (rD hS hL hq hr hf hro)
 |scope x=>
  refine zH (hS.code x ro fr hp outs hq X w0 θ K a w hr hf hro) ?_;rintro l a' w' ⟨o,_,_,_,_,he,_⟩;cases hx:o.exit<;>rw[hx]at he<;>cases he
 |region id ops d=>
  cases d with
  |false=>
   refine wpIn_region ?_;have:=uN (X:=X) (w0:=w0) (r:=ro.map θ.blk) hN hS ops.toList (i:=0) (λk=>by rw[aX,Array.getElem?_toList]) hq hr hf;rw[Array.length_toList,<-List.range_eq_range']at this;exact this
  |true=>
   simp only[bO]at hq;cases hfit:eJ ops ops.toList 0 with
   |false=>rw[hfit]at hq;cases hq
   |true=>
    rw[hfit]at hq;exact wX hN hS hmix hfit hq hr hf
 |rangeFunc g ps assign body=>exact hrange g ps assign body rfl
 |_=>simp only[bO]at hq;cases hq
end
section
variable {P:Program}{Γ:Env}{X:Nat->Prop}{w0:World}{self:Task->R}{θ:Ren}{K:Nat->Prop}{h:Hp}{w:World}
theorem Rep.loop{b:Nat}{l:ALoop}(hr:Rep Γ X w0 θ K h w)(hb:h.objs.get b=some (.loop l)):∃r:Loop,w.heap[θ.blk b]? =some (.loop r)/\r.state=l.state/\r.pending=l.pending/\r.params=l.params/\r.assign=l.assign/\r.body=l.body/\r.defers=θ.blk l.defers/\
 tmpsRep θ l.tmps l.sz r.tmps/\(∀i v,l.tmps.get i=some v->v.ok K)/\K l.defers/\K b/\
 ∀st pe,Rep Γ X w0 θ K (h.upd b (.loop {l with state:=st,pending:=pe})) (w.putObj (θ.blk b) (.loop {r with state:=st,pending:=pe})):=by
 obtain⟨k1,_,k3,ob,k4,fn,xs,ht,rfl⟩:=hr.obj b _ hb;exact⟨_,k4,rfl,rfl,rfl,rfl,rfl,rfl,ht,k3.1,k3.2,k1,λst pe=>hr.turn hb (o':=.loop {l with state:=st,pending:=pe}) k3 ⟨fn,xs,ht,rfl⟩⟩
theorem mW(hN:ed P){f:FuncId}(hf:∃fn c,P.funcs[f]? =some fn/\fn.body=some c)(vs:Array Value):(callFunc f vs).run P w=.ok (.enter f vs) w:=by
 obtain⟨fn,c,hfn,hbody⟩:=hf;simp only[callFunc,ae,run_program,Result.andThen,hfn,hN f fn hfn,aA,if_false,hbody,Option.isNone_some,ah]
theorem vj{v:SV}{b f:Nat}{args:List SV}(h:gE v b=some (f,args))(hv:v.ok K){K':Nat->Prop}(hk:∀i,K i->K' i)(hb:K' b):SV.okL K' args:=by
 unfold gE at h;split at h
 .simp only[a7,ap]at h;obtain⟨_,rfl⟩:=h;exact dn (dn (gk _ _) ⟨hb,trivial⟩) (gk _ _)
 .simp only[a7,ap]at h;obtain⟨_,rfl⟩:=h;exact dn (dn (fL hk _ hv.1) ⟨hb,trivial⟩) (fL hk _ hv.2)
 .cases h
theorem sG(hN:ed P){v:SV}{b f:Nat}{args:List SV}(h:gE v b=some (f,args))(hf:∃fn c,P.funcs[f]? =some fn/\fn.body=some c){a:Act}{g:Operand}(hv:a.eval g=conc θ v):
 ∃d:Deferred,(resolve a.eval (rangeCall g (θ.blk b)) 0).run P w=.ok d w/\(invoke d.target d.args).run P w=.ok (.enter f (concL θ args).toArray) w:=by
 unfold gE at h;split at h
 .rename_i f' x y;simp only[a7,ap]at h;obtain⟨rfl,rfl⟩:=h;have he:(x++#[Value.func (.yield (θ.blk b)) #[] #[]])++y=(concL θ (x.toList.map .lit++[.yield b]++y.toList.map .lit)).toArray:=by
   rw[<-aN];simp only[Array.toList_append,eO,kA,concL,conc]
  refine⟨_,by simp only[resolve,hv,conc,Deferred.ofValue,ah,List.map_toArray,ax,aY];rfl,?_⟩;simp only[invoke,<-he];exact mW hN hf _
 .rename_i f' x y;simp only[a7,ap]at h;obtain⟨rfl,rfl⟩:=h;have he:((concL θ x).toArray++#[Value.func (.yield (θ.blk b)) #[] #[]])++(concL θ y).toArray=(concL θ (x++[.yield b]++y)).toArray:=by
   rw[<-aN];simp only[Array.toList_append,eO,concL,conc]
  refine⟨_,by simp only[resolve,hv,conc,Deferred.ofValue,ah,List.map_toArray,ax,aY];rfl,?_⟩;simp only[invoke,<-he];exact mW hN hf _
 .cases h
end
section
variable {P:Program}{Γ:Env}{X:Nat->Prop}{w0:World}{self:Task->R}{θ:Ren}{K:Nat->Prop}{h:Hp}{w:World}
theorem sr{b:Nat}{fr:Fr}{x:Out}{outs:List Out}(hq:gu b fr x=some outs){r:Option Nat}{n:Nat}{θ':Ren}{K':Nat->Prop}{w':World}{a:Act}(hG:Grow K θ n K' θ' x.hp.next)(hr:Rep Γ X w0 θ' K' x.hp w')(hf:FRep θ' K' fr a)
 {outs':List Out} (hm:∀y∈outs,y∈outs'):∃jump w₄,(Instr.endLoop (θ'.blk b)).run P w'=.ok jump w₄/\
  (match jump with
   |none=>Post Γ X w0 θ K n outs' .normal a w₄
   |some c=>c.wpIn (G r) 0 P (Post Γ X w0 θ K n outs') a w₄):=by
 unfold gu at hq;split at hq
 .rename_i l hl;obtain⟨rc,hw,hst,hpe,_,_,_,_,_,_,_,_,hrep⟩:=hr.loop hl;have go:l.state≠.busy->(∃e,outs=[⟨e,fr,x.hp.upd b (.loop {l with state:=.exhausted}),.lit undef⟩]/\(match l.pending with
   |none=>e=.normal
   |some .ret=>e=.ret
   |some (.exit id)=>e=.exit id
   |_=>False))->∃jump w₄,(Instr.endLoop (θ'.blk b)).run P w'=.ok jump w₄/\
   (match jump with
    |none=>Post Γ X w0 θ K n outs' .normal a w₄
    |some c=>c.wpIn (G r) 0 P (Post Γ X w0 θ K n outs') a w₄):=λhb ⟨e,ho,he⟩=>by
   have hend:=run_endLoop (P:=P) hw (by rw[hst];exact hb);have hrep':=hrep .exhausted l.pending;have post:Post Γ X w0 θ K n outs' e.conc a (w'.putObj (θ'.blk b) (.loop {rc with state:=.exhausted})):=by
    refine⟨⟨e,fr,x.hp.upd b (.loop {l with state:=.exhausted}),.lit undef⟩,hm _ (by rw[ho];exact List.mem_singleton.2 rfl),θ',K',hG,rfl,?_,hf⟩;rw[<-hpe]at hrep';have e1:({l with state:=.exhausted,pending:=rc.pending}:ALoop)={l with state:=.exhausted}:=by rw[hpe]
    rw[e1]at hrep';exact hrep'
   generalize w'.putObj (θ'.blk b) (.loop {rc with state:=.exhausted})=W at hend post;refine⟨rc.pending,W,hend,?_⟩;rw[hpe];split at he
   .rename_i hp;rw[hp];subst he;exact post
   .rename_i hp;rw[hp];subst he;exact wpIn_ret post
   .rename_i id hp;rw[hp];subst he;exact wpIn_exit post
   .exact he.elim
  split at hq
  .cases hq
  .rename_i hb;refine go (λe=>hb e) ?_;split at hq
   .simp only[a7]at hq;exact⟨.normal,hq.symm,by simp[*]⟩
   .simp only[a7]at hq;exact⟨.ret,hq.symm,by simp[*]⟩
   .simp only[a7]at hq;rename_i id _;exact⟨.exit id,hq.symm,by simp[*]⟩
   .cases hq
 .cases hq
theorem E1{b:Nat}{fr:Fr}{a:Act}{fn:FuncId}{ps:Array Tmp}{assign body:Code}(hr:Rep Γ X w0 θ K h w)(hf:FRep θ K fr a)(hb:K b):
 Rep Γ X w0 (θ.bind h.next w.heap.size 0) (hJ K h.next) (h.new (.loop ⟨.ready,none,0,fr.tmps,fr.sz,ps,assign,body,b⟩)).2 (w.alloc (.loop {state:=.ready,pending:=none,fn,tmps:=a.tmps,params:=ps,assign,body,defers:=θ.blk b})):=by
 have hE:Ext K θ (θ.bind h.next w.heap.size 0):=Ren.bind_ext (hr.next _ (av _));have hok:AObj.ok K (.loop ⟨.ready,none,0,fr.tmps,fr.sz,ps,assign,body,b⟩):=⟨λi v hv=>hf.ok i v hv,hb⟩;exact hr.make_next rfl rfl rfl rfl (AObj.ok_mono bW _ hok) (jW hE hok ⟨fn,a.tmps,hf.tmps,rfl⟩)
theorem yv(hr:Rep Γ X w0 θ K h w)(o:AObj)(n c:Nat):Grow K θ h.next (hJ K h.next) (θ.bind h.next n c) (h.new o).2.next:=
 ⟨Ren.bind_ext (hr.next _ (av _)),bW,cT,Nat.le_succ _⟩
theorem qV[AskOk P Γ](hN:ed P)(hS:Sound P Γ self){g:Operand}{ps:Array Tmp}{assign body:Code}{fr fr':Fr}{hp:Hp}{outs:List Out}{d:Nat}{n0:Nat}{θ0:Ren}{K0:Nat->Prop}{r:Option Nat}
 {a a':Act} {fn:FuncId} (hr:Rep Γ X w0 θ K hp w) (hf:FRep θ K fr a) (hf':FRep θ K fr' a') (hd:K d) (hG:Grow K0 θ0 n0 K θ hp.next)
 (hq:(match gE (fr.ev g) (hp.new (.loop ⟨.ready,none,0,fr.tmps,fr.sz,ps,assign,body,d⟩)).1 with
  |none=>none
  |some c=>match self (.call c.1 c.2 (hp.new (.loop ⟨.ready,none,0,fr.tmps,fr.sz,ps,assign,body,d⟩)).2)with
   |none=>none
   |some outs=>ew (gu (hp.new (.loop ⟨.ready,none,0,fr.tmps,fr.sz,ps,assign,body,d⟩)).1 fr') outs)=some outs):
 ∃(dd:Deferred) (w₁':World) (f:FuncId) (args:Array Value) (w₂:World),
  (resolve a.eval (rangeCall g w.heap.size) 0).run P (w.alloc (.loop {state:=.ready,pending:=none,fn,tmps:=a.tmps,params:=ps,assign,body,defers:=θ.blk d}))=.ok dd w₁'/\
  (invoke dd.target dd.args).run P w₁'=.ok (.enter f args) w₂/\
  CallsIn (G r) (0-1) P f args w₂ (rangePost (G r) 0 P w.heap.size (Post Γ X w0 θ0 K0 n0 outs) a'):=by
 split at hq
 .cases hq
 .rename_i c hc;obtain⟨f,args⟩:=c;split at hq
  .cases hq
  .rename_i os hos;obtain⟨hfn,hcall⟩:=hS.call f args _ os hos;have hrep:=E1 (fn:=fn) (ps:=ps) (assign:=assign) (body:=body) hr hf hd;have hG1:=yv hr (.loop ⟨.ready,none,0,fr.tmps,fr.sz,ps,assign,body,d⟩) w.heap.size 0;have hv:a.eval g=conc (θ.bind hp.next w.heap.size 0) (fr.ev g):=by rw[hf.ev,gT hG1.ext _ (hf.evOk g)]
   obtain⟨dd,h1,h2⟩:=sG (θ:=θ.bind hp.next w.heap.size 0) (w:=w.alloc (.loop {state:=.ready,pending:=none,fn,tmps:=a.tmps,params:=ps,assign,body,defers:=θ.blk d})) hN hc hfn hv;have hb:(θ.bind hp.next w.heap.size 0).blk (hp.new (.loop ⟨.ready,none,0,fr.tmps,fr.sz,ps,assign,body,d⟩)).1=w.heap.size:=Ren.bind_blk;rw[hb]at h1;refine⟨dd,_,f,_,_,h1,h2,?_⟩;refine CallsIn.mono (F:=Fence.wide) (n:=0) (hcall X w0 _ _ _ hrep (vj hc (hf.evOk g) bW (.inr rfl))) λe w' he=>?_;obtain⟨o,ho,θ',K',hG2,rfl,_,hr'⟩:=he;obtain⟨y,hy,hm⟩:=fA hq o ho;have hG3:=hG1.trans hG2;have:=sr (P:=P) (r:=r) hy (hG.trans hG3) hr' (hf'.ext hG3.ext hG3.mono) hm;rw[show θ'.blk (hp.new (.loop ⟨.ready,none,0,fr.tmps,fr.sz,ps,assign,body,d⟩)).1=w.heap.size from(hG2.ext.blk _ (.inr rfl)).trans hb]at this;exact this
theorem wY[AskOk P Γ](hN:ed P)(hS:Sound P Γ self){g:Operand}{ps:Array Tmp}{assign body:Code}{ro:Option Nat}{fr:Fr}{hp:Hp}{outs:List Out}(hq:bO P Γ self (.code (.rangeFunc g ps assign body) ro fr hp)=some outs)
 {a:Act} (hr:Rep Γ X w0 θ K hp w) (hf:FRep θ K fr a):(Code.rangeFunc g ps assign body).wpIn (G (ro.map θ.blk)) 0 P (Post Γ X w0 θ K hp.next outs) a w:=by
 refine wpIn_rangeFunc λfn _=>?_;simp only[bO]at hq;split at hq
 .cases hq
 .rename_i s hs;cases ro with
  |some l=>
   simp only[lR]at hs;split at hs
   .rename_i x hx;simp only[a7]at hs;subst hs;obtain⟨rc,hw,_,_,_,_,_,hdef,_,_,hkd,_,_⟩:=hr.loop hx;obtain⟨dd,w1,f,args,w2,h1,h2,h3⟩:=qV (fn:=fn) (r:=(some l).map θ.blk) hN hS hr hf hf hkd (Grow.refl _ _ _) hq;refine⟨w.heap.size,[],_,dd,w1,f,args,w2,?_,h1,λf' _=>uK _ f',h2,pZ _ 0,h3⟩;show(Instr.enterLoop fn a.tmps ps assign body (some (θ.blk l))).run P w=_;unfold Instr.enterLoop;simp only[ae,run_getLoop hw,run_newObj_alloc,Result.andThen,ah,hdef]
   .cases hs
  |none=>
   simp only[lR,a7]at hs;subst hs;have hE:=yv hr (.deferred true) w.heap.size 0;have hr1:Rep Γ X w0 (θ.bind hp.next w.heap.size 0) (hJ K hp.next) (hp.new (.deferred true)).2 (w.alloc (.deferred (some []))):=hr.make_next (o:=.deferred true) rfl rfl rfl rfl trivial rfl;have hf1:=hf.ext hE.ext hE.mono;have hf2:FRep (θ.bind hp.next w.heap.size 0) (hJ K hp.next) {fr with marks:=hp.next::fr.marks} {a with defers:=[{target:=.collected w.heap.size,args:=#[]}]++a.defers}:=by
    refine⟨hf1.tmps,hf1.ok,?_,λb hb=>?_⟩
    .simp only[ax,Ren.bind_blk,List.singleton_append,hf1.marks]
    .rcases aD.1 hb with rfl|hb
     .exact .inr rfl
     .exact hf1.marksOk b hb
   obtain⟨dd,w1,f,args,w2,h1,h2,h3⟩:=qV (fn:=fn) (r:=Option.map θ.blk none) hN hS hr1 hf1 hf2 (.inr rfl) hE hq;refine⟨_,_,_,dd,w1,f,args,w2,?_,h1,λf' _=>uK _ f',h2,pZ _ 0,h3⟩;show(Instr.enterLoop fn a.tmps ps assign body none).run P w=_;rw[run_enterLoop_outer];simp only[World.size_alloc,Ren.bind_blk]
theorem zF{l:List (Tmp×SV)}:∀{fr fr':Fr} {a:Act},jC l fr=some fr'->FRep θ K fr a->(∀x∈l,x.2.ok K)->FRep θ K fr' {a with tmps:=(l.map λx=>(x.1,conc θ x.2)).foldl (λtmps (x:Tmp×Value)=>tmps.setIfInBounds x.1 x.2) a.tmps}:=by
 induction l with
 |nil=>intro fr fr' a hq hf _;simp only[jC,a7]at hq;subst hq;exact hf
 |cons x l ih=>
  intro fr fr' a hq hf hok;obtain⟨t,v⟩:=x;simp only[jC]at hq;split at hq
  .rename_i f1 h1;exact ih hq (hf.put (hok _ (ak ..)) h1) λx hx=>hok x (am _ hx)
  .cases hq
end
section
variable {P:Program}{Γ:Env}{X:Nat->Prop}{w0:World}{self:Task->R}{θ:Ren}{K:Nat->Prop}{h:Hp}{w:World}
theorem rr{b:Nat}{y:Out}{outs outs':List Out}(hq:eG b y=some outs){n:Nat}{θ':Ren}{K':Nat->Prop}{w':World}{a:Act}(hG:Grow K θ n K' θ' y.hp.next)(hr:Rep Γ X w0 θ' K' y.hp w')(hm:∀y∈outs,y∈outs'):
 roundPost P (θ'.blk b) (CPost Γ X w0 θ K n outs') y.exit.conc a w':=by
 have go:∀jump r,gG y.hp b jump=some r->outs=[⟨.ret,y.fr,r.2,r.1⟩]->∃v w₂,(Instr.endRound (θ'.blk b) jump).run P w'=.ok v w₂/\CPost Γ X w0 θ K n outs' (.returned v) w₂:=by
  intro jump r he ho;unfold gG at he;split at he
  .rename_i l hl;simp only[a7]at he;subst he;obtain⟨rc,hw,_,_,_,_,_,_,_,_,_,_,hrep⟩:=hr.loop hl;refine⟨_,_,run_endRound jump hw,⟨.ret,y.fr,y.hp.upd b (.loop {l with state:=bif jump.isNone then .ready else .done,pending:=jump}),cP jump.isNone⟩,hm _ (by rw[ho];exact List.mem_singleton.2 rfl),θ',K',hG,rfl,trivial,?_⟩;cases jump with
   |none=>exact hrep .ready none
   |some c=>exact hrep .done (some c)
  .cases he
 unfold eG at hq;split at hq
 .rename_i r he;simp only[a7]at hq;obtain⟨ex,fr,hp,v⟩:=y;cases ex with
  |normal=>exact go none r he hq.symm
  |ret=>exact go (some .ret) r he hq.symm
  |exit id=>exact go (some (.exit id)) r he hq.symm
 .cases hq
theorem lq(hS:Sound P Γ self){b:Nat}{args:List SV}{hp:Hp}{outs:List Out}(hq:bO P Γ self (.round b args hp)=some outs)(hr:Rep Γ X w0 θ K hp w)(hok:SV.okL K args):
 ∃l f tmps assign body,(Instr.yield (θ.blk b) (concL θ args).toArray).run P w=.ok (.round l f tmps assign body) w/\RoundIn Fence.wide 0 P l f tmps assign body w (CPost Γ X w0 θ K hp.next outs):=by
 simp only[bO]at hq;split at hq
 .rename_i l hl;cases hlen:Nat.beq args.length l.params.size with
  |false=>rw[hlen]at hq;cases hq
  |true=>
   rw[hlen]at hq;simp only[bf]at hq;split at hq
   .cases hq
   .rename_i fr hset;split at hq
    .cases hq
    .rename_i os hos;obtain⟨rc,hw,_,_,hpar,hass,hbody,_,htm,htok,_,hkb,_⟩:=hr.loop hl;have hfr:FRep θ K fr {tmps:=(rc.params.zip (concL θ args).toArray).foldl (λtmps (t,a)=>tmps.setIfInBounds t a) rc.tmps,defers:=[]}:=by
      have:=zF (θ:=θ) (K:=K) (a:={tmps:=rc.tmps,defers:=[]}) hset ⟨htm,htok,rfl,λb hb=>(by cases hb)⟩ (λx hx=>(dQ _ _).1 hok _ (List.of_mem_zip hx).2);have e:(rc.params.zip (concL θ args).toArray).foldl (λtmps (t,a)=>tmps.setIfInBounds t a) rc.tmps=((l.params.toList.zip args).map λx=>(x.1,conc θ x.2)).foldl (λtmps (x:Tmp×Value)=>tmps.setIfInBounds x.1 x.2) rc.tmps:=by
       rw[<-Array.foldl_toList,Array.toList_zip,hpar,cV,List.zip_map_right];rfl
      rw[e];exact this
     refine⟨θ.blk b,rc.fn,_,rc.assign,rc.body,run_yield hw (by rw[hpar];simpa using eq_of_beq hlen),roundIn_of_wpIn trivial ?_⟩;have hcode:=hS.code l.assign (some b) fr hp os hos X w0 θ K _ w hr hfr (λl' h'=>by cases h';exact hkb);rw[hass,hbody];refine wpIn_mono (F:=Fence.wide.inRound (θ.blk b)) hcode ?_;rintro e a1 w1 ⟨o,ho,θ1,K1,hG1,rfl,hr1,hf1⟩;obtain⟨y,hy,hm⟩:=fA hq o ho;unfold gJ at hy;split at hy
     .rename_i l1 hex hl1;split at hy
      .rename_i hready;split at hy
       .cases hy
       .rename_i os2 hos2;rw[hex];obtain⟨rc1,hw1,hst1,hpe1,_,_,_,_,_,_,_,hkb1,hrep1⟩:=hr1.loop hl1;have hblk:θ1.blk b=θ.blk b:=hG1.ext.blk b hkb;have hbegin:=run_beginRound (P:=P) hw1 (by rw[hst1,hready]);have hrep:=hrep1 .busy l1.pending;rw[<-hpe1,show({l1 with state:=.busy,pending:=rc1.pending}:ALoop)={l1 with state:=.busy} by rw[hpe1]]at hrep;rw[hblk]at hbegin hrep;refine⟨_,hbegin,?_⟩;have hcode2:=hS.code l.body (some b) o.fr _ os2 hos2 X w0 θ1 K1 a1 _ hrep hf1 (λl' h'=>by cases h';exact hkb1);rw[show(some b).map θ1.blk=some (θ.blk b)from congrArg some hblk]at hcode2;refine wpIn_mono (F:=Fence.wide.inRound (θ.blk b)) hcode2 ?_;rintro e a2 w2 ⟨o2,ho2,θ2,K2,hG2,rfl,hr2,hf2⟩;obtain⟨z,hz,hm2⟩:=fA hy o2 ho2;have:=rr (P:=P) (a:=a2) hz (hG1.trans hG2) hr2 λy hy=>hm y (hm2 y hy);rw[hG2.ext.blk b hkb1,hblk]at this;exact this
      .cases hy
     .cases hy
 .cases hq
theorem qw{fr:Fr}{a:Act}(hr:Rep Γ X w0 θ K h w)(hf:FRep θ K fr a):∀(l:List ResultVar) {vs:List SV},dX P Γ fr h l=some vs->
 (l.mapM λ
 | .tmp t=>pure (a.tmps.getD t undef)
 | .cell x t=>do loadVar t (<-asAddr (a.tmps.getD x undef)):Sem (List Value)).run P w=.ok (concL θ vs) w/\SV.okL K vs:=by
 intro l
 induction l with
 |nil=>intro vs hq;simp only[dX,a7]at hq;subst hq;exact⟨rfl,trivial⟩
 |cons x l ih=>
  intro vs hq;cases x with
  |tmp t=>
   simp only[dX,aa]at hq;obtain⟨r,hr',rfl⟩:=hq;obtain⟨h1,h2⟩:=ih hr';refine⟨?_,hf.evOk (.tmp t),h2⟩;simp only[List.mapM_cons,ae,ah,Result.andThen,h1,concL];rw[show a.tmps.getD t undef=conc θ (fr.ev (.tmp t))from hf.ev (.tmp t)]
  |cell x t=>
   simp only[dX]at hq;split at hq
   .rename_i v fs r hv hr';simp only[a7]at hq;subst hq;obtain⟨h1,h2⟩:=ih hr';obtain⟨ad,had,hld⟩:=l5 (θ:=θ) hv hr.globW λf hf=>hr.fact (o5 hv f hf);refine⟨?_,xr hv hr.okAll,h2⟩;have hd:(do loadVar t (<-asAddr (a.tmps.getD x undef)):Sem Value).run P w=.ok (conc θ v) w:=by
     rw[show a.tmps.getD x undef=conc θ (fr.ev (.tmp x))from hf.ev (.tmp x),had];simp only[asAddr,ae,ah,Result.andThen,hld]
    have e:∀g:ResultVar->Sem Value,(g (.cell x t)).run P w=.ok (conc θ v) w->(l.mapM g).run P w=.ok (concL θ r) w->((ResultVar.cell x t::l).mapM g).run P w=.ok (concL θ (v::r)) w:=λg h h'=>by
     simp only[List.mapM_cons,ae,h,h',Result.andThen,ah,concL]
    exact e _ hd h1
   .cases hq
def HF:List SV->SV
 |[v]=>v
 |vs=>.tuple vs
theorem sH{fn:Func}{fr:Fr}{a:Act}{vs:List SV}(hr:Rep Γ X w0 θ K h w)(hf:FRep θ K fr a)(hq:dX P Γ fr h fn.results.toList=some vs):
 (results fn a.tmps).run P w=.ok (conc θ (HF vs)) w/\SV.okL K vs:=by
 obtain⟨h1,h2⟩:=qw hr hf _ hq;refine⟨?_,h2⟩;have e:∀g:ResultVar->Sem Value,(fn.results.toList.mapM g).run P w=.ok (concL θ vs) w->(do
  let us<-fn.results.mapM g
  pure (if h:us.size=1 then us[0]else .tuple us):Sem Value).run P w=.ok (conc θ (HF vs)) w:=λg hg=>by
  simp only[Array.mapM_eq_mapM_toList,ae,Sem.run_map,hg,Result.andThen,ah]
  match vs with
  |[]=>rfl
  |[v]=>rfl
  |_::_::_=>rfl
 unfold results;exact e _ h1
theorem Bb{fn:Func}{tmps:Array Value}{R:Ending->World->Prop}:∀(marks:List Nat) {h h':Hp} {w:World},eH marks h=some h'->Rep Γ X w0 θ K h w->h'.next=h.next/\
 ((∀w',Rep Γ X w0 θ K h' w'->LeavesIn Fence.wide 0 P fn tmps R [] .returning w')->LeavesInM Fence.wide 0 P fn tmps R (marks.map λb=>({target:=.collected (θ.blk b),args:=#[]}:Deferred)) .returning w):=by
 intro marks
 induction marks with
 |nil=>intro h h' w hq hr;simp only[eH,a7]at hq;subst hq;exact⟨rfl,λH=>H w hr⟩
 |cons b l ih=>
  intro h h' w hq hr;simp only[eH]at hq;split at hq
  .rename_i hb;obtain⟨_,_,_,ob,hw,hO⟩:=hr.obj b _ hb;have hO:ob=.deferred (some []):=hO;subst hO;have hrep:Rep Γ X w0 θ K (h.upd b (.deferred false)) (w.putObj (θ.blk b) (.deferred none)):=hr.turn hb (o':=.deferred false) trivial rfl;obtain⟨h1,h2⟩:=ih hq hrep;refine⟨h1,λH=>?_⟩;exact⟨by simp,.inl ⟨θ.blk b,_,rfl,run_takeDeferred hw,h2 H⟩⟩
  .cases hq
theorem DM{args:List SV}{n:Nat}(hok:SV.okL K args):FRep θ K ⟨T.ofList args 0 .leaf,Nat.max n args.length,[]⟩ {tmps:=(concL θ args).toArray++Array.replicate (n-(concL θ args).toArray.size) undef,defers:=[]}:=by
 refine⟨⟨?_,λi=>?_⟩,λi v hv=>?_,rfl,λb hb=>by cases hb⟩
 .simp only[Array.size_append,List.size_toArray,bH,Array.size_replicate];show _=max n args.length;omega
 .simp only[T.get_ofList,Nat.zero_le,true_and,aX,Nat.sub_zero,Array.getD_eq_getD_getElem?,Array.getElem?_append,List.size_toArray,bH,aP,ez];by_cases hi:i<args.length
  .rw[bi hi,bi hi,aB hi];rfl
  .rw[bh hi,bh hi];simp only[Array.getElem?_replicate,T.get,conc];split<;>rfl
 .rw[T.get_ofList]at hv;split at hv
  .exact(dQ _ _).1 hok v (aW hv)
  .cases hv
theorem zB(hS:Sound P Γ self){f:FuncId}{args:List SV}{hp:Hp}{outs:List Out}(hq:bO P Γ self (.call f args hp)=some outs):(∃fn c,P.funcs[f]? =some fn/\fn.body=some c)/\
 ∀X w0 θ K w,Rep Γ X w0 θ K hp w->SV.okL K args->CallsIn Fence.wide 0 P f (concL θ args).toArray w (CPost Γ X w0 θ K hp.next outs):=by
 simp only[bO]at hq;split at hq
 .cases hq
 .rename_i fn hfn;split at hq
  .cases hq
  .rename_i c hc;split at hq
   .rename_i os hos;refine⟨⟨fn,c,hfn,hc⟩,λX w0 θ K w hr hok=>callsIn_of_wp_marks hfn hc trivial ?_⟩;have hcode:=hS.code c none _ hp os hos X w0 θ K _ w hr (DM hok) (λl h=>by cases h);refine wpIn_mono (F:=Fence.wide) hcode ?_;rintro e a w' ⟨o,ho,θ',K',hG,rfl,hr',hf'⟩;obtain⟨y,hy,hm⟩:=fA hq o ho;have go:(match eH o.fr.marks o.hp with
     |none=>none
     |some h=>match dX P Γ o.fr h fn.results.toList with
      |some [v]=>some [(⟨.ret,o.fr,h,v⟩:Out)]
      |some vs=>some [⟨.ret,o.fr,h,.tuple vs⟩]
      |none=>none)=some y->LeavesInM Fence.wide 0 P fn a.tmps (CPost Γ X w0 θ K hp.next outs) a.defers .returning w':=λhy=>by
     split at hy
     .cases hy
     .rename_i h' hsh;rw[hf'.marks];obtain⟨hnx,hl⟩:=Bb (P:=P) (fn:=fn) (tmps:=a.tmps) (R:=CPost Γ X w0 θ K hp.next outs) _ hsh hr';refine hl λw2 hr2=>?_;have key:∀vs,dX P Γ o.fr h' fn.results.toList=some vs->y=[⟨.ret,o.fr,h',HF vs⟩]->LeavesIn Fence.wide 0 P fn a.tmps (CPost Γ X w0 θ K hp.next outs) [] .returning w2:=λvs hvs hy=>by
       obtain⟨h1,h2⟩:=sH hr2 hf' hvs;refine⟨_,h1,_,hm _ (by rw[hy];exact List.mem_singleton.2 rfl),θ',K',?_,rfl,?_,hr2⟩
       .show Grow K θ hp.next K' θ' h'.next;rw[hnx];exact hG
       .match vs,h2 with
        |[],_=>exact trivial
        |[v],h2=>exact h2.1
        |_::_::_,h2=>exact h2
      split at hy
      .rename_i v hv;simp only[a7]at hy;exact key [v] hv hy.symm
      .rename_i vs hne hv;simp only[a7]at hy;refine key vs hv ?_;rw[<-hy]
       match vs,hne with
       |[],_=>rfl
       |[v],hne=>exact absurd rfl (hne v)
       |_::_::_,_=>rfl
      .cases hy
    unfold g8 at hy;obtain⟨ex,fr,hp',v⟩:=o;cases ex with
    |normal=>exact go hy
    |ret=>exact go hy
    |exit id=>cases hy
   .cases hq
theorem zI[AskOk P Γ](hN:ed P)(hmix:P.follows .mixedOrders=true){m:Nat}(hS:Sound P Γ self)(hL:rU P Γ m self):Sound P Γ (bO P Γ self)/\rU P Γ (m+1) (bO P Γ self):=
 ⟨⟨λc ro fr hp outs hq X w0 θ K a w hr hf hro=>AI hN hmix hS hL hq hr hf hro λg ps assign body e=>by subst e;exact wY hN hS hq hr hf,
   λf args hp outs hq=>zB hS hq,λb args hp outs hq X w0 θ K w hr hok=>lq hS hq hr hok⟩,
  λc ro fr hp outs hq X w0 θ K a w hr hf hro=>rD hS hL hq hr hf hro⟩
end
open Go Go.RowKit Go.WideShapes Go.ChangeShapes
def u7(r:R):Bool:=match r with
 |some l=>l.all λo=>match o.v with
  | .lit (.bool b)=>b
  |_=>false
 |none=>false
theorem vO{r:R}(h:u7 r=true):∃outs,r=some outs/\∀o∈outs,o.v=.lit (.bool true):=by
 cases r with
 |none=>cases h
 |some l=>
  refine⟨l,rfl,λo ho=>?_⟩;have:=aE.1 h o ho
  revert this
  generalize o.v=v;intro h;split at h
  .rw[h]
  .cases h
theorem zL{P:Program}(h:P.funcs.all (λfn=> !(fn.name== "runtime.NumGoroutine"))=true):ed P:=λf fn hf=>by
 have:=Array.all_eq_true.1 h f (Array.getElem?_eq_some_iff.1 hf).1;rw[(Array.getElem?_eq_some_iff.1 hf).2]at this
 simpa using this
def globMet(Γ:Glob)(w:World):Prop:=∀g cs,Γ.get g=some cs->∃e fr,w.heap[g]? =some (.cells cs.toArray e fr)
theorem tE{Γ:Env}(θ:Ren){w:World}(n:Nat)(hΓ:globMet Γ w)(hi:Γ.inv (·<w.heap.size) w θ (·<n)):Rep Γ (·<w.heap.size) w θ (·<n) ⟨.leaf,n⟩ w:=
 ⟨rfl,rfl,rfl,av _,λ_ _=>rfl,λ_ h=>h,λg cs hg=>by
  obtain⟨e,fr,h⟩:=hΓ g cs hg;exact⟨(Array.getElem?_eq_some_iff.1 h).1,e,fr,h⟩,λb o h=>(by cases h),λb b' o o' h=>(by cases h),λi hi=>Nat.not_lt.2 hi,hi⟩
theorem Rep.below{Γ:Env}{θ:Ren}{K:Nat->Prop}{h:Hp}{w0 w:World}(hr:Rep Γ (·<w0.heap.size) w0 θ K h w):Below w0.heap.size w0 w:=
 ⟨hr.os,hr.tape,hr.output,hr.size,λk hk=>hr.kept k hk⟩
section
variable {H:Type}{enc:TypeId×Value->H}{P:Program}
theorem sI{f:Func}{s:ChangeSpec}{apart fresh handsOn again:Bool}{W W':World}{args:Array Value}{v:Value}{ds gs:List (DataW H)}{before pa pv:List MemPlace}
 (hW:DataW.Whole enc P f.params.toList s.vars apart W args.toList ds gs before)
 (hres:∀(b:Nat) (sp:Nat->Bool) (hd:Bool),DataW.TrodAll enc P W' b sp hd f.resultTypes.toList (v.resultList f.resultTypes.size) (s.fn H (ds++gs)).results [])
 (hargs:∀sp:Nat->Bool,(∀p∈before,sp p.block=true)->DataW.TrodAll enc P W' 0 sp true f.params.toList args.toList (s.fn H (ds++gs)).args pa)
 (hvars:∀sp:Nat->Bool,(∀p∈before,sp p.block=true)->DataW.TrodVars enc P W' sp s.vars (s.fn H (ds++gs)).vars pv)
 (hps:before=pa++pv) (hb:Below W.heap.size W W')
 (hok:∀(j:Nat) (t:TypeId) (r:Value),f.resultTypes[j]? =some t->(v.resultList f.resultTypes.size)[j]? =some r->Value.okWide P W' .any 0 t r):
 s.post enc P f apart fresh handsOn again W args v W':=by
 have hlt:∀p∈before,p.block<W.heap.size:=λp hp=>hW.lt p hp;have hold:∀p∈before,(λb=>decide (b<W.heap.size)) p.block=true:=λp hp=>by simpa using hlt p hp
 refine⟨ds,gs,before,[],pa,pv,hW,hres _ _ _,hargs _ hold,hvars _ hold,World.keptBut_mono (λp hp=>⟨hp,?_⟩) (hb.frame (·∈before)),λ_=>?_⟩
 .rw[hps,List.mem_append]at hp;exact Or.inr hp
 .obtain⟨_,_,_,_,_,hz,hn⟩:=hW;refine⟨hok,_,_,([]++pa)++pv,⟨[]++pa,pv,trodAll_append (hargs _ (λ_ _=>rfl)) (hres _ _ _),hvars _ (λ_ _=>rfl),rfl,?_,?_⟩,?_⟩
  .intro b off hp;have hin:MemPlace.cell b off∈before:=by rw[hps];simpa using hp
   rw[hb.frozen (hlt _ hin)];exact hz b off hin
  .intro ha;have:=hn ha;rw[hps]at this
   simpa using this
  .intro p hp _;rw[hps]
   simpa using hp
end
section
variable {H:Type}{enc:TypeId×Value->H}{P:Program}
theorem Ia(hl:laidOutB P=true){W W':World}(hb:Below W.heap.size W W'){sp:Nat->Bool}(ts:List TypeId):∀{vs:List Value} {ds:List (DataW H)} {ps:List MemPlace},(∀t∈ts,P.readableRec t=true/\t<P.types.size)->
 DataW.TrodAll enc P W 0 (λ_=>true) true ts vs ds ps->(∀p∈ps,p.block<W.heap.size)->(∀p∈ps,sp p.block=true)->DataW.TrodAll enc P W' 0 sp true ts vs ds ps:=by
 induction ts with
 |nil=>
  intro vs ds ps _ h _ _;cases vs<;>cases ds<;>exact h
 |cons t ts ih=>
  intro vs ds ps ht h hlt hs;cases vs with
  |nil=>cases ds<;>exact h.elim
  |cons v vs=>
   cases ds with
   |nil=>exact h.elim
   |cons d ds=>
    obtain⟨p,q,h1,h2,rfl⟩:=h;exact⟨p,q,WideElems.Trod_stays hl (ht t (ak ..)).1 (ht t (ak ..)).2 h1 (λx hx=>hb.same (hlt x (aK _ hx))) (λx hx=>hs x (aK _ hx)),
     ih (λu hu=>ht u (am _ hu)) h2 (λx hx=>hlt x (aO _ hx)) (λx hx=>hs x (aO _ hx)),rfl⟩
theorem law_post{f:Func}{s:ChangeSpec}{tb:TypeId}{W W':World}{args:Array Value}{ds gs:List (DataW H)}{before:List MemPlace}(hl:laidOutB P=true)(hts:∀t∈f.params.toList,P.readableRec t=true/\t<P.types.size)
 (hvars:s.vars=[]) (hres:f.resultTypes=#[tb]) (hbt:P.underlying tb=some .bool) (hs:s.fn H ds={results:=[.lit (.bool true)],args:=ds})
 (hW:DataW.Whole enc P f.params.toList s.vars false W args.toList ds gs before) (hb:Below W.heap.size W W'):s.post enc P f false true false false W args (.bool true) W':=by
 have hW':=hW;obtain⟨p,q,hA,hV,hp,_,_⟩:=hW;rw[hvars]at hV;have hgq:gs=[]/\q=[]:=by
  cases gs with
  |nil=>exact⟨rfl,hV⟩
  |cons _ _=>exact hV.elim
 obtain⟨rfl,rfl⟩:=hgq;have hlt:∀x∈before,x.block<W.heap.size:=λx hx=>hW'.lt x hx;have hbe:before=p:=by rw[hp,List.append_nil]
 refine sI (pa:=p) (pv:=[]) hW' (λb sp hd=>?_) (λsp hsp=>?_) (λsp hsp=>?_) hp hb (ok_one hres rfl (okWide_bool_mk hbt _))
 .rw[List.append_nil,hs,hres];exact trodAll_cons_mk (shut_bool hbt _) trodAll_mk0
 .rw[List.append_nil,hs];exact Ia hl hb _ hts hA (λx hx=>hlt x (by rw[hbe];exact hx)) λx hx=>hsp x (by rw[hbe];exact hx)
 .rw[List.append_nil,hs,hvars];exact rfl
end
def uQ(zs:List bn):DataW Unit:=.agg (zs.map λz=>.lit (.string z))
def strCells(zs:List bn):List Value:=zs.map λz=>.string ⟨z.toArray⟩
theorem sf{enc:TypeId×Value->Unit}{P:Program}{w:World}{base:Nat}{sp:Nat->Bool}{held:Bool}{fuel:Nat}{t e:TypeId}{n:Nat}{cs:List Value}{zs:List bn}{p:List MemPlace}
 (ht:P.underlying t=some (.array n e)) (he:P.underlying e=some .string) (hce:P.cellsOf e=1) (hct:P.cellsOf t=n)
 (h:DataW.trod enc P w base sp held fuel t cs=some (uQ zs,p)):cs=strCells zs:=by
 cases fuel with
 |zero=>simp[DataW.trod]at h
 |succ fuel=>
  simp only[DataW.trod,ht,hce,hct,Nat.mul_one]at h;split at h
  .rename_i hl;obtain⟨xs,hm,hx⟩:=aa.1 h;have hxs:xs.map (·.1)=zs.map λz=>(DataW.lit (.string z):DataW Unit):=by
    have:=congrArg Prod.fst hx
    simpa[uQ]using this
   have hxl:xs.length=n:=by simpa using Lib.mapM_length hm
   have hzl:zs.length=n:=by
    have:=congrArg List.length hxs;simp at this;omega
   apply List.ext_getElem?;intro i;by_cases hi:i<n
   .obtain⟨b,hb,hf⟩:=Lib.mapM_at hm i i (by simp[hi]);obtain⟨z,hc,rfl,_⟩:=DataW.trod_string he hf;have h1:cs[i]? =some (.string z):=by
     have:=congrArg (·[0]?) hc
     simpa[List.getElem?_take,List.getElem?_drop]using this
    have h2:(xs.map (·.1))[i]? =some (DataW.lit (.string z.data.toList):DataW Unit):=by simp[hb]
    rw[hxs]at h2;simp only[aV,aa,DataW.lit.injEq,Lit.string.injEq]at h2;obtain⟨z',hz',e⟩:=h2;simp only[strCells,h1,aV,hz',af,e]
   .rw[List.getElem?_eq_none bj,List.getElem?_eq_none (by simp[strCells];omega)]
  .cases h
theorem laid_at{P:Program}{W:World}:∀{l:List (String×DataW Unit)} {ps:List MemPlace},DataW.LaidVars P W l ps->∀x∈l,∃g t cs fuel p,P.globalNamed x.1=some g/\(P.globals[g]?).map (·.type)=some t/\W.var? P x.1=some cs/\DataW.trod (λ_=>()) P W 0 (λ_=>true) false fuel t cs.toList=some (x.2,p)
 |[],_,_,x,hx=>by cases hx
 |(n,d)::r,ps,h,x,hx=>by
  obtain⟨g,t,cs,fuel,p,q,h1,h2,h3,h4,h5,_⟩:=h;rcases aD.1 hx with rfl|hx
  .exact⟨g,t,cs,fuel,p,h1,h2,h3,h4⟩
  .exact laid_at h5 x hx
theorem strTab{P:Program}{W:World}{laid:List (String×DataW Unit)}{name:String}{zs:List bn}{g:Nat}{t e:TypeId}{n:Nat}(hL:laidMet P laid W)(hx:(name,uQ zs)∈laid)
 (hg:P.globalNamed name=some g) (hty:(P.globals[g]?).map (·.type)=some t) (ht:P.underlying t=some (.array n e)) (he:P.underlying e=some .string) (hce:P.cellsOf e=1) (hct:P.cellsOf t=n):
 globMet (Glob.leaf.set g (strCells zs)) W:=by
 obtain⟨ps,hv,_⟩:=hL;obtain⟨g',t',cs,fuel,p,h1,h2,h3,h4⟩:=laid_at hv _ hx;obtain rfl:=ab (hg.symm.trans h1);obtain rfl:=ab (hty.symm.trans h2);have hc:=sf ht he hce hct h4;intro k cs' hk;have hk:(T.leaf.set g (strCells zs)).get k=some cs':=hk;rw[T.get_set]at hk;by_cases hkg:k=g
 .subst hkg;rw[bi rfl]at hk;cases hk;unfold World.var? at h3;rw[h1]at h3;simp only[ay]at h3;cases hh:W.heap[k]? with
  |none=>rw[hh]at h3;cases h3
  |some o=>
   rw[hh]at h3;cases o with
   |cells c e fr=>
    have:c=cs:=by simpa using h3
    subst this;exact⟨e,fr,by rw[<-hc]⟩
   |_=>cases h3
 .rw[bh hkg]at hk;cases hk
def LG:Lit->Value
 | .int k n=>.int k n
 | .bool b=>.bool b
 | .string l=>.string ⟨l.toArray⟩
 |_=>.bool false
mutual
def flat:DataW Unit->List Value
 | .lit l=>[LG l]
 | .agg ds=>Ku ds
 |_=>[]
def Ku:List (DataW Unit)->List Value
 |[]=>[]
 |d::ds=>flat d++Ku ds
end
def DE(l:List Value):Obj->Obj
 | .cells _ t frozen=>.cells l.toArray t frozen
 |o=>o
def laidHeap(l:List (Nat×DataW Unit))(h:Array Obj):Array Obj:=l.foldl (λh x=>h.modify x.1 (DE (flat x.2))) h
open Go
theorem AZ{P:Program}(h:P.funcs.any Func.goes=false)(f:FuncId):P.goes f=false:=by
 have one:∀g:Nat,(P.funcs[g]?).any Func.goes=false:=λg=>by
  cases hg:P.funcs[g]? with
  |none=>rfl
  |some fn=>
   have:=Array.any_eq_false.1 h g (Array.getElem?_eq_some_iff.1 hg).1;rw[(Array.getElem?_eq_some_iff.1 hg).2]at this
   simpa using this
 have h1:((P.closure f).any λg=>(P.funcs[g]?).any Func.goes)=false:=by
  rw[show(λg=>(P.funcs[g]?).any Func.goes)=λ_=>false from funext one];simp
 unfold Program.goes;rw[h1,h,Bool.and_false];rfl
theorem goesBy_false{P:Program}{c:OpenClaim}(h:P.funcs.any Func.goes=false)(hs:c.start=.entering):false=c.goesBy P:=by
 unfold OpenClaim.goesBy Program.goesAt Program.goesFrom;rw[hs];cases P.funcNamed c.func with
 |none=>rfl
 |some f=>simp[AZ h f]
def Le(s s':Task->R):Prop:=∀t o,s t=some o->s' t=some o
theorem j6{α β:Type}{f g:α->Option (List β)}(h:∀a o,f a=some o->g a=some o):∀(l:List α) (r:List β),ew f l=some r->ew g l=some r
 |[],_,hr=>hr
 |a::l,r,hr=>by
  simp only[ew]at hr⊢;split at hr
  .rename_i x y hx hy;rw[h a x hx,j6 h l y hy];exact hr
  .cases hr
section
variable {P:Program}{Γ:Glob}{s s':Task->R}
theorem HI{α:Type}{x y:R}{f:List Out->α}{r:α}(h:∀o,x=some o->y=some o)(hr:x.map f=some r):y.map f=some r:=by
 rw[aa]at hr;obtain⟨o,ho,e⟩:=hr;rw[h o ho,af,e]
theorem BO(h:Le s s'){fr:Fr}{hp:Hp}{o:Oper}{r:List (SV×Hp)}(hr:lW P Γ s fr hp o=some r):lW P Γ s' fr hp o=some r:=by
 unfold lW at hr⊢;cases hc:cz fr.ev o.op with
 |none=>rw[hc]at hr;exact hr
 |some c=>
  rw[hc]at hr;cases c with
  |fn f args=>
   simp only at hr⊢;cases hcl:gw P hp f args with
   |some x=>rw[hcl]at hr;exact hr
   |none=>rw[hcl]at hr;exact HI (h _) hr
  |round b args=>exact HI (h _) hr
theorem Iz(h:Le s s'){ops:Array Oper}{fr:Fr}{hp:Hp}{o:Oper}{r:List (Fr×Hp)}(hr:oper P Γ s ops fr hp o=some r):oper P Γ s' ops fr hp o=some r:=by
 unfold oper at hr⊢;split at hr
 .cases hr
 .exact hr
 .split at hr
  .exact hr
  .split at hr
   .rename_i rs hl
    try rw[BO h hl]
    exact hr
   .cases hr
theorem t8(h:Le s s'){ops:Array Oper}:∀(l:List Oper) {fr:Fr} {hp:Hp} {r:List Out},iM P Γ s ops l fr hp=some r->iM P Γ s' ops l fr hp=some r
 |[],_,_,_,hr=>hr
 |o::l,fr,hp,r,hr=>by
  simp only[iM]at hr⊢;split at hr
  .rename_i x hx;rw[Iz h hx];exact j6 (λa o ho=>t8 h l ho) x r hr
  .cases hr
theorem AA(h:Le s s'){ops:Array Oper}{go go':Nat->List Held->Fr->Hp->R}(hg:∀m x f p o,go m x f p=some o->go' m x f p=some o){mask:Nat}{held:List Held}{fr:Fr}{hp:Hp}{io:Nat×Oper}{r:List Out}
 (hr:iB P Γ s ops go mask held fr hp io=some r):iB P Γ s' ops go' mask held fr hp io=some r:=by
 unfold iB at hr⊢;split at hr
 .split at hr
  .cases hr
  .rename_i outs ho;rw[BO h ho];refine j6 (λx o hx=>?_) outs r hr;split at hx
   .rename_i t f h1 h2
    try rw[h1,h2]
    try simp only
    cases hf:dx x.2 io.1 held held with
    |false=>rw[hf]at hx;cases hx
    |true=>rw[hf]at hx;exact hg _ _ _ _ _ hx
   .cases hx
 .cases hr
theorem xC(h:Le s s'){ops:Array Oper}:∀(n:Nat) {mask:Nat} {held:List Held} {fr:Fr} {hp:Hp} {r:List Out},drawn P Γ s ops n mask held fr hp=some r->drawn P Γ s' ops n mask held fr hp=some r
 |0,_,_,_,_,_,hr=>by cases hr
 |n+1,mask,held,fr,hp,r,hr=>by
  simp only[drawn]at hr⊢;split at hr
  .cases hr
  .rename_i x hx
   try rw[hx]
   try simp only
   split at hr
   .exact hr
   .exact j6 (λio o ho=>AA h (λm y f p o ho=>xC h n ho) ho) _ r hr
theorem ub{f g:Fr->Hp->R}(h:∀a b o,f a b=some o->g a b=some o){outs r:List Out}(hr:kU f outs=some r):kU g outs=some r:=by
 unfold kU at hr⊢;refine j6 (λx o hx=>?_) outs r hr;split at hx
 .exact h _ _ _ hx
 .exact hx
theorem KX(h:Le s s'):Le (bO P Γ s) (bO P Γ s'):=by
 intro t r hr;unfold bO at hr;split at hr
 .exact hr
 .exact hr
 .exact hr
 .exact hr
 .rename_i a b ro fr hp;simp only[bO];split at hr
  .rename_i outs ho;rw[h _ _ ho];exact ub (λ_ _ _ ho=>h _ _ ho) hr
  .cases hr
 .rename_i c x y ro fr hp;simp only[bO];split at hr
  .exact h _ _ hr
  .exact h _ _ hr
  .cases hr
 .rename_i id c ro fr hp;simp only[bO];split at hr
  .rename_i outs ho;rw[h _ _ ho];exact hr
  .cases hr
 .rename_i c ro fr hp;simp only[bO];split at hr
  .rename_i outs ho;rw[h _ _ ho];exact ub (λ_ _ _ ho=>h _ _ ho) hr
  .cases hr
 .rename_i c ro fr hp;exact h _ _ hr
 .rename_i id ops ro fr hp;exact t8 h _ hr
 .rename_i id ops ro fr hp;simp only[bO];cases hf:eJ ops ops.toList 0 with
  |false=>rw[hf]at hr;cases hr
  |true=>rw[hf]at hr;exact xC h _ hr
 .rename_i g ps assign body ro fr hp;simp only[bO];split at hr
  .cases hr
  .rename_i s0 hs0
   try rw[hs0]
   try simp only at hr⊢
   split at hr
   .cases hr
   .rename_i c hc
    try rw[hc]
    try simp only at hr⊢
    split at hr
    .cases hr
    .rename_i outs ho;rw[h _ _ ho];exact hr
 .cases hr
 .rename_i f args hp;simp only[bO];split at hr
  .cases hr
  .rename_i fn hfn
   try rw[hfn]
   try simp only at hr⊢
   split at hr
   .cases hr
   .rename_i c hc
    try rw[hc]
    try simp only at hr⊢
    split at hr
    .rename_i outs ho;rw[h _ _ ho];exact hr
    .cases hr
 .rename_i b args hp;simp only[bO];split at hr
  .rename_i l hl
   try rw[hl]
   try simp only at hr⊢
   cases hb:Nat.beq args.length l.params.size with
   |false=>rw[hb]at hr;cases hr
   |true=>
    rw[hb]at hr;simp only[bf]at hr⊢;split at hr
    .cases hr
    .rename_i fr hfr
     try rw[hfr]
     try simp only at hr⊢
     split at hr
     .cases hr
     .rename_i outs ho;rw[h _ _ ho]
      try simp only
      refine j6 (λx o hx=>?_) outs r hr;unfold gJ at hx⊢;split at hx
      .rename_i l' he hl'
       try rw[he,hl']
       try simp only
       split at hx
       .rename_i hst
        try rw[hst]
        try simp only
        split at hx
        .cases hx
        .rename_i os hos;rw[h _ _ hos];exact hx
       .cases hx
      .cases hx
  .cases hr
end
abbrev kb:=FuncId->List SV->Hp->R
def hU(P:Program)(Γ:Glob)(mem:kb)(self:Task->R):Task->R
 | .call f args hp=>match mem f args hp with
   |some outs=>some outs
   |none=>bO P Γ self (.call f args hp)
 |t=>bO P Γ self t
def f8(P:Program)(Γ:Glob)(mem:kb)(n:Nat):Task->R:=Nat.rec (λ_=>none) (λ_ ih=>hU P Γ mem ih) n
section
variable {P:Program}{Γ:Glob}{mem:kb}
theorem Dm(n:Nat)(t:Task):f8 P Γ mem (n+1) t=hU P Γ mem (f8 P Γ mem n) t:=rfl
end
end Go.Proofs.YtbhokokpplmigaaGreatDoor.Ev
namespace Go.Proofs.YtbhokokpplmigaaGreatDoor.fr
open Go Go.Lib Go.Proofs.YtbhokokpplmigaaGreatDoor.Ev
abbrev C4:=Int×Int×Int×Int
instance:Inhabited C4:=⟨(0,0,0,0)⟩
abbrev c4C(z:C4):List SV:=[.lit (.int .i64 z.1),.lit (.int .i64 z.2.1),.lit (.int .i64 z.2.2.1),.lit (.int .i64 z.2.2.2)]
def or2(x y:Int):Int:=if x=0 then y else x
def cfC(x y:C4):Int:=or2 (or2 (compareInt x.2.1 y.2.1) (compareInt x.1 y.1)) (or2 (compareInt x.2.2.2 y.2.2.2) (compareInt x.2.2.1 y.2.2.1))
def ltI(a b c d:Int):Prop:=b<d\/(b=d/\a<c)
def lt4(x y:C4):Prop:=ltI x.1 x.2.1 y.1 y.2.1\/(x.1=y.1/\x.2.1=y.2.1/\ltI x.2.2.1 x.2.2.2 y.2.2.1 y.2.2.2)
instance (a b c d:Int):Decidable (ltI a b c d):=by unfold ltI;infer_instance
instance (x y:C4):Decidable (lt4 x y):=by unfold lt4;infer_instance
theorem K5(a b:Int):(a<b/\compareInt a b= -1)\/(b<a/\compareInt a b=1)\/(a=b/\compareInt a b=0):=by
 unfold compareInt;by_cases h1:a<b
 .exact .inl ⟨h1,bi h1⟩
 .by_cases h2:b<a
  .exact .inr (.inl ⟨h2,by rw[bh h1,bi h2]⟩)
  .exact .inr (.inr ⟨by omega,by rw[bh h1,bh h2]⟩)
theorem O8(a b c d:Int):(ltI a b c d/\or2 (compareInt b d) (compareInt a c)= -1)\/(ltI c d a b/\or2 (compareInt b d) (compareInt a c)=1)\/(a=c/\b=d/\or2 (compareInt b d) (compareInt a c)=0):=by
 rcases K5 b d with⟨h1,e1⟩|⟨h1,e1⟩|⟨h1,e1⟩
 .exact .inl ⟨.inl h1,by rw[e1];rfl⟩
 .exact .inr (.inl ⟨.inl h1,by rw[e1];rfl⟩)
 .rcases K5 a c with⟨h2,e2⟩|⟨h2,e2⟩|⟨h2,e2⟩
  .exact .inl ⟨.inr ⟨h1,h2⟩,by rw[e1,e2];rfl⟩
  .exact .inr (.inl ⟨.inr ⟨h1.symm,h2⟩,by rw[e1,e2];rfl⟩)
  .exact .inr (.inr ⟨h2,h1,by rw[e1,e2];rfl⟩)
theorem Np(x y:C4):(lt4 x y/\cfC x y= -1)\/(lt4 y x/\cfC x y=1)\/(x=y/\cfC x y=0):=by
 obtain⟨a,b,c,d⟩:=x;obtain⟨a',b',c',d'⟩:=y;unfold cfC lt4;rcases O8 a b a' b' with⟨h1,e1⟩|⟨h1,e1⟩|⟨h0,h1,e1⟩
 .exact .inl ⟨.inl h1,by rw[e1];rfl⟩
 .exact .inr (.inl ⟨.inl h1,by rw[e1];rfl⟩)
 .rcases O8 c d c' d' with⟨h2,e2⟩|⟨h2,e2⟩|⟨h3,h2,e2⟩
  .exact .inl ⟨.inr ⟨h0,h1,h2⟩,by rw[e1,e2];rfl⟩
  .exact .inr (.inl ⟨.inr ⟨h0.symm,h1.symm,h2⟩,by rw[e1,e2];rfl⟩)
  .exact .inr (.inr ⟨by rw[h0,h1,h3,h2],by rw[e1,e2];rfl⟩)
theorem np(x:C4):¬lt4 x x:=by
 obtain⟨a,b,c,d⟩:=x;unfold lt4 ltI;simp only;omega
theorem rK{x y z:C4}(h1:lt4 x y)(h2:lt4 y z):lt4 x z:=by
 obtain⟨a,b,c,d⟩:=x;obtain⟨a',b',c',d'⟩:=y;obtain⟨a2,b2,c2,d2⟩:=z;unfold lt4 ltI at*;simp only at*;omega
theorem MW(x y:C4)(h1:¬lt4 y x)(h2:¬lt4 x y):x=y:=by
 rcases Np x y with⟨h,_⟩|⟨h,_⟩|⟨h,_⟩
 .exact absurd h h2
 .exact absurd h h1
 .exact h
def t7{α:Type}(le:α->α->Bool)(x:α):List α->List α
 |[]=>[x]
 |y::l=>bif le x y then x::y::l else y::t7 le x l
def gU{α:Type}(le:α->α->Bool):List α->List α
 |[]=>[]
 |x::l=>t7 le x (gU le l)
section
variable {α:Type}{le:α->α->Bool}
theorem mG(x:α):∀l:List α,(t7 le x l).Perm (x::l)
 |[]=>List.Perm.refl _
 |y::l=>by
  unfold t7;cases le x y with
  |true=>exact List.Perm.refl _
  |false=>exact((mG x l).cons y).trans (List.Perm.swap x y l)
theorem mj:∀l:List α,(gU le l).Perm l
 |[]=>List.Perm.refl _
 |x::l=>(mG x _).trans ((mj l).cons x)
theorem Ew(l:List α):(gU le l).length=l.length:=(mj l).length_eq
theorem tw(htot:∀x y,le x y=false->le y x=true)(htr:∀x y z,le x y=true->le y z=true->le x z=true)(x:α):∀l:List α,l.Pairwise (λa b=>le a b=true)->(t7 le x l).Pairwise λa b=>le a b=true
 |[],_=>List.pairwise_singleton _ _
 |y::l,h=>by
  have hy:=List.pairwise_cons.1 h;unfold t7;cases e:le x y with
  |true=>
   refine List.pairwise_cons.2 ⟨λz hz=>?_,h⟩;rcases aD.1 hz with rfl|hz
   .exact e
   .exact htr x y z e (hy.1 z hz)
  |false=>
   refine List.pairwise_cons.2 ⟨λz hz=>?_,tw htot htr x l hy.2⟩;rcases aD.1 ((mG x l).mem_iff.1 hz)with rfl|hz
   .exact htot _ _ e
   .exact hy.1 z hz
theorem tS(htot:∀x y,le x y=false->le y x=true)(htr:∀x y z,le x y=true->le y z=true->le x z=true):∀l:List α,(gU le l).Pairwise λa b=>le a b=true
 |[]=>List.Pairwise.nil
 |x::l=>tw htot htr x _ (tS htot htr l)
theorem nc(htot:∀x y,le x y=false->le y x=true)(htr:∀x y z,le x y=true->le y z=true->le x z=true)(hanti:∀x y,le x y=true->le y x=true->x=y){l r:List α}(hp:r.Perm l)(ha:r.Pairwise λa b=>le a b=true):gU le l=r:=
 ((mj l).trans hp.symm).eq_of_pairwise (λa b _ _ x y=>hanti a b x y) (tS htot htr l) ha
end
def leC(x y:C4):Bool:= !decide (lt4 y x)
theorem gP{x y:C4}:leC x y=true↔¬lt4 y x:=by simp[leC]
theorem CW(x y:C4)(h:leC x y=false):leC y x=true:=gP.2 λh2=>by
 have h1:lt4 y x:=by simpa[leC]using h
 exact np _ (rK h1 h2)
theorem Ah(x y z:C4)(h1:leC x y=true)(h2:leC y z=true):leC x z=true:=gP.2 λh=>by
 rw[gP]at h1 h2;rcases Np y z with⟨h3,_⟩|⟨h3,_⟩|⟨rfl,_⟩
 .exact h1 (rK h3 h)
 .exact h2 h3
 .exact h1 h
theorem yJ(x y:C4)(h1:leC x y=true)(h2:leC y x=true):x=y:=MW x y (gP.1 h1) (gP.1 h2)
def leT(x y:bn):Bool:= !Op.bytesLess y x
theorem less_lt:∀a b:bn,Go.Op.bytesLess a b=decide (a<b)
 |_,[]=>by
  rw[show Go.Op.bytesLess _ []=false by cases ‹bn› <;>rfl];simp
 |[],b::y=>by simp[Go.Op.bytesLess]
 |a::x,b::y=>by
  rw[Go.Op.bytesLess,less_lt x y];by_cases h:a<b
  .simp[h,List.cons_lt_cons_iff]
  .by_cases h2:a=b
   .subst h2;simp[List.cons_lt_cons_iff]
   .simp[h,h2,List.cons_lt_cons_iff]
theorem iE{x y:bn}:leT x y=true↔x<=y:=by
 unfold leT;rw[less_lt];simp
theorem Bx(x y:bn)(h:leT x y=false):leT y x=true:=iE.2 ((List.le_total x y).resolve_left λh2=>by rw[iE.2 h2]at h;cases h)
theorem F2(x y z:bn)(h1:leT x y=true)(h2:leT y z=true):leT x z=true:=iE.2 (List.le_trans (iE.1 h1) (iE.1 h2))
theorem zk(x y:bn)(h1:leT x y=true)(h2:leT y x=true):x=y:=List.le_antisymm (iE.1 h1) (iE.1 h2)
def Aw:List SV->Option (List C4)
 |[]=>some []
 | .lit (.int .i64 a)::.lit (.int .i64 b)::.lit (.int .i64 c)::.lit (.int .i64 d)::r=>(Aw r).map λl=>(a,b,c,d)::l
 |_=>none
theorem Cm:∀zs:List C4,Aw ((zs.map c4C).flatten)=some zs
 |[]=>rfl
 |z::zs=>by
  show(Aw ((zs.map c4C).flatten)).map _=_;rw[Cm zs];rfl
theorem Cy:∀{n:Nat} {l:List SV} {zs:List C4},l.length<=n->Aw l=some zs->l=(zs.map c4C).flatten
 |_,[],zs,_,h=>by
  obtain rfl:=ab h;rfl
 |0,_::_,_,hn,_=>by simp at hn
 |n+1,x::l,zs,hn,h=>by
  unfold Aw at h;split at h
  .rename_i e;cases e
  .rename_i a b c d r e;obtain⟨ws,h1,rfl⟩:=aa.1 h;rw[e]at hn⊢;rw[Cy (n:=n) (by simp at hn;omega) h1];rfl
  .cases h
end Go.Proofs.YtbhokokpplmigaaGreatDoor.fr
namespace Go.Proofs.YtbhokokpplmigaaGreatDoor.Ev
open Go
open Go.Proofs.YtbhokokpplmigaaGreatDoor.fr (gU leT Aw c4C leC)
def ig(hp:Hp)(v:SV):R:=some [⟨.ret,⟨.leaf,0,[]⟩,hp,v⟩]
def txV(l:bn):SV:=.lit (.string ⟨⟨l⟩⟩)
def boV(b:Bool):SV:=.lit (.bool b)
def i6V(z:Int):SV:=.lit (.int .i64 z)
def mM(g:bn->bn->Option SV)(args:List SV)(hp:Hp):R:=match args with
 |[.lit (.string ⟨⟨s⟩⟩),.lit (.string ⟨⟨p⟩⟩)]=>match g s p with
  |some v=>ig hp v
  |none=>none
 |_=>none
def Ib(s p:bn):Option SV:=bif Nat.ble s.length 1000000 then some (.tuple [txV (Lib.cut s p).1,txV (Lib.cut s p).2.1,boV (Lib.cut s p).2.2])else none
def Lp(s p:bn):Option SV:=some (boV (Lib.hasPrefix s p))
def Fb(s p:bn):Option SV:=some (.tuple [txV (Lib.trimPrefix s p),boV (Lib.hasPrefix s p)])
def G7(s p:bn):Option SV:=some (txV (Lib.trimPrefix s p))
def xV(s p:bn):Option SV:=bif Nat.ble s.length 1000000 then some (.tuple [txV (Lib.trimSuffix s p),boV (Lib.hasSuffix s p)])else none
def ixW(args:List SV)(hp:Hp):R:=match args with
 |[.lit (.string ⟨⟨s⟩⟩),.lit (.int .u8 c)]=>ig hp (i6V (Lib.indexByte s c.toNat.toUInt8))
 |_=>none
def tp(args:List SV)(hp:Hp):R:=match args with
 |[.lit (.string ⟨⟨s⟩⟩),.lit (.string ⟨⟨c⟩⟩),.lit (.string ⟨⟨n⟩⟩)]=>bif Nat.ble s.length 100000&&(Nat.beq c.length 1&&Nat.ble n.length 100)then ig hp (txV (Lib.replaceAll s c n))else none
 |_=>none
def sU(args:List SV)(hp:Hp):R:=match args with
 |[.lit (.int .i64 z)]=>bif decide (-9223372036854775808<=z)&&decide (z<=9223372036854775807)then ig hp (txV (Lib.itoa z))else none
 |_=>none
def mN(args:List SV)(hp:Hp):R:=match args with
 |[.lit (.string ⟨⟨s⟩⟩)]=>bif Nat.ble s.length 1000000 then(match Lib.atoiAll s with
  | .ok z=>ig hp (.tuple [i6V z,.lit .nilIface])
  | .range=>ig ⟨hp.objs,hp.next+1⟩ (.tuple [i6V (Lib.atoiSat s),.iface 315 (.ptr hp.next 0)])
  |_=>ig ⟨hp.objs,hp.next+1⟩ (.tuple [i6V 0,.iface 315 (.ptr hp.next 0)]))else none
 |_=>none
def txs:List SV->Option (List bn)
 |[]=>some []
 | .lit (.string ⟨⟨s⟩⟩)::r=>(txs r).map λl=>s::l
 |_=>none
def lsC(v:SV)(hp:Hp)(e:TypeId):Option (List SV):=match v with
 | .lit (.slice none 0 0)=>some []
 | .slice b 0 n c=>match hp.objs.get b with
   |some (.cells cs e')=>bif Nat.beq e e'&&(Nat.beq cs.length c&&(Nat.ble n c&&Nat.ble c 2000000))then some (cs.take n)else none
   |_=>none
 | .row b 0 n k b'=>match hp.objs.get b with
   |some (.row cs e' k' b2 size)=>bif Nat.beq e e'&&(Nat.beq k k'&&(Nat.beq size 1&&(Nat.ble n k&&(Nat.ble n cs.length&&(Nat.beq b b'&&Nat.beq b b2)))))then some (cs.take n)else none
   |_=>none
 |_=>none
def tB{α:Type}(un:List SV->Option (List α))(enc:α->List SV)(le:α->α->Bool)(e size:Nat)(v:SV)(hp:Hp):R:=match v with
 | .lit (.slice none 0 0)=>ig hp (.lit (.tuple #[]))
 | .row b 0 n n' cv=>match hp.objs.get b with
   |some (.row l e' k cv' size')=>bif Nat.beq n' n&&(Nat.beq k n&&(Nat.beq cv' cv&&(Nat.beq e' e&&(Nat.beq size' size&&Nat.ble n 1000000))))then(match un l with
    |some zs=>bif Nat.beq zs.length n then ig (hp.upd b (.row ((gU le zs).map enc).flatten e' k cv' size')) (.lit (.tuple #[]))else none
    |none=>none)else none
   |_=>none
 |_=>none
def sortTW(args:List SV)(hp:Hp):R:=match args with
 |[v]=>tB txs (λz=>[txV z]) leT 9 1 v hp
 |_=>none
def sortCW(args:List SV)(hp:Hp):R:=match args with
 |[v,.lit (.func (.func g) a b)]=>bif Nat.beq g 48&&(a.isEmpty&&b.isEmpty)then tB Aw c4C leC 45 4 v hp else none
 |_=>none
def tu(args:List SV)(hp:Hp):R:=match args with
 |[v,.lit (.string ⟨⟨p⟩⟩)]=>match(lsC v hp 9).bind txs with
  |some L=>bif Nat.ble L.length 100&&Nat.ble (Lib.join L p).length 1000000 then ig hp (txV (Lib.join L p))else none
  |none=>none
 |_=>none
def ccW(args:List SV)(hp:Hp):R:=match args with
 |[.ptr b 0]=>match hp.objs.get b with
  |some (.cells [.lit (.pointer none),v] e)=>bif Nat.beq e 58&&SV.one v then ig (hp.upd b (.cells [.ptr b 0,v] e)) (.tuple [])else none
  |some (.cells [.ptr b' 0,_] e)=>bif Nat.beq e 58&&Nat.beq b' b then ig hp (.tuple [])else none
  |_=>none
 |_=>none
def Et:List SV->Option bn
 |[]=>some []
 | .lit (.int .u8 (.ofNat k))::r=>bif Nat.blt k 256 then(Et r).map λl=>UInt8.ofNat k::l else none
 |_=>none
def zv(rb n:Nat)(v:SV)(hp:Hp):R:=match(lsC v hp 5).bind Et with
 |some t=>bif Nat.blt 0 n&&(Nat.ble n 1000000&&Nat.beq t.length n)then ig ⟨hp.objs.put rb none,hp.next⟩ (txV t)else none
 |none=>none
def zm(args:List SV)(hp:Hp):R:=match args with
 |[.ptr b 0]=>match hp.objs.get b with
  |some (.cells [_,.lit (.slice none 0 0)] e)=>bif Nat.beq e 58 then ig hp (txV [])else none
  |some (.cells [_,.slice rb 0 n c] e)=>bif Nat.beq e 58 then zv rb n (.slice rb 0 n c) hp else none
  |some (.cells [_,.row rb 0 n k cv] e)=>bif Nat.beq e 58 then zv rb n (.row rb 0 n k cv) hp else none
  |_=>none
 |_=>none
def words:kb:=λf args hp=>
 bif Nat.beq f 11 then mM Ib args hp
 else bif Nat.beq f 118 then mM Lp args hp
 else bif Nat.beq f 61 then mM Fb args hp
 else bif Nat.beq f 51 then mM G7 args hp
 else bif Nat.beq f 67 then mM xV args hp
 else bif Nat.beq f 219 then ixW args hp
 else bif Nat.beq f 52 then tp args hp
 else bif Nat.beq f 44 then sU args hp
 else bif Nat.beq f 159 then mN args hp
 else bif Nat.beq f 16 then tu args hp
 else bif Nat.beq f 39 then ccW args hp
 else bif Nat.beq f 26 then zm args hp
 else bif Nat.beq f 91 then sortTW args hp
 else bif Nat.beq f 80 then sortCW args hp
 else none
def theMem:kb:=λf args hp=>
 bif Nat.beq f 4 then(match args with
  |[]=>ig hp (boV true)
  |_=>none)
 else words f args hp
open Go Go.RowKit
def Ends{α:Type}(f:Nat->Option (List α))(Φ:α->Prop):Prop:=∃(N:Nat) (l:List α),(∀n,N<=n->f n=some l)/\∀x∈l,Φ x
theorem Ends.mono{α:Type}{f:Nat->Option (List α)}{Φ Ψ:α->Prop}(h:Ends f Φ)(hp:∀x,Φ x->Ψ x):Ends f Ψ:=by
 obtain⟨N,l,h1,h2⟩:=h;exact⟨N,l,h1,λx hx=>hp x (h2 x hx)⟩
theorem Ends.one{α:Type}{f:Nat->Option (List α)}{x:α}{Φ:α->Prop}(h:∀n,f n=some [x])(hx:Φ x):Ends f Φ:=
 ⟨0,[x],λn _=>h n,λy hy=>by rw[List.mem_singleton.1 hy];exact hx⟩
theorem Ends.eq{α:Type}{f g:Nat->Option (List α)}{Φ:α->Prop}(h:Ends f Φ)(he:∀n,g n=f n):Ends g Φ:=by
 obtain⟨N,l,h1,h2⟩:=h;exact⟨N,l,λn hn=>(he n).trans (h1 n hn),h2⟩
theorem Ends.succ{α:Type}{f g:Nat->Option (List α)}{Φ:α->Prop}(h:Ends f Φ)(he:∀n,g (n+1)=f n):Ends g Φ:=by
 obtain⟨N,l,h1,h2⟩:=h;refine⟨N+1,l,λn hn=>?_,h2⟩;obtain⟨m,rfl⟩:∃m,n=m+1:=⟨n-1,by omega⟩;rw[he];exact h1 m bj
theorem Ends.all{α β:Type}{f:Nat->α->Option (List β)}{Φ:β->Prop}:∀(l:List α),(∀a∈l,Ends (λn=>f n a) Φ)->Ends (λn=>ew (f n) l) Φ
 |[],_=>⟨0,[],λ_ _=>rfl,λ_ h=>by cases h⟩
 |a::l,h=>by
  obtain⟨N,x,h1,h2⟩:=h a (ak ..);obtain⟨M,y,h3,h4⟩:=Ends.all l λb hb=>h b (am _ hb);refine⟨max N M,x++y,λn hn=>?_,λz hz=>(List.mem_append.1 hz).elim (h2 z) (h4 z)⟩;have e1:f n a=some x:=h1 n bj;have e2:ew (f n) l=some y:=h3 n bj;simp only[ew,e1,e2]
theorem Ends.bind{α β:Type}{f:Nat->Option (List α)}{g:Nat->α->Option (List β)}{k:Nat->Option (List β)}{Φ:α->Prop}{Ψ:β->Prop}(h:Ends f Φ)(hg:∀a,Φ a->Ends (λn=>g n a) Ψ)
 (he:∀n l,f n=some l->k n=ew (g n) l):Ends k Ψ:=by
 obtain⟨N,l,h1,h2⟩:=h;obtain⟨M,r,h3,h4⟩:=Ends.all l λa ha=>hg a (h2 a ha);exact⟨max N M,r,λn hn=>(he n l (h1 n bj)).trans (h3 n bj),h4⟩
section
variable {P:Program}{Γ:Glob}
def Runs(P:Program)(Γ:Glob)(t:Task)(Φ:Out->Prop):Prop:=Ends (λn=>f8 P Γ theMem n t) Φ
theorem Runs.mono{t:Task}{Φ Ψ:Out->Prop}(h:Runs P Γ t Φ)(hp:∀x,Φ x->Ψ x):Runs P Γ t Ψ:=Ends.mono h hp
theorem Runs.step{t:Task}{Φ:Out->Prop}(h:Ends (λn=>hU P Γ theMem (f8 P Γ theMem n) t) Φ):Runs P Γ t Φ:=Ends.succ h λn=>Dm n t
def E9(next:Fr->Hp->Prop)(Φ:Out->Prop)(o:Out):Prop:=match o.exit with
 | .normal=>next o.fr o.hp
 |_=>Φ o
def CG(g:Fr->Hp->R)(x:Out):R:=match x.exit with
 | .normal=>g x.fr x.hp
 |_=>some [x]
theorem D3(g:Fr->Hp->R)(l:List Out):kU g l=ew (CG g) l:=rfl
theorem xU{f:Nat->Option (List Out)}{g:Nat->Fr->Hp->R}{k:Nat->R}{Φ:Out->Prop}(h:Ends f (E9 (λfr hp=>Ends (λn=>g n fr hp) Φ) Φ))(he:∀n l,f n=some l->k n=kU (g n) l):Ends k Φ:=by
 refine Ends.bind (g:=λn x=>CG (g n) x) h (λo ho=>?_) λn l hl=>(he n l hl).trans (D3 _ _);obtain⟨ex,fr,hp,v⟩:=o;cases ex with
 |normal=>exact ho
 |ret=>exact Ends.one (λ_=>rfl) ho
 |exit id=>exact Ends.one (λ_=>rfl) ho
theorem jQ{ro:Option Nat}{fr:Fr}{hp:Hp}{Φ:Out->Prop}(h:Φ ⟨.normal,fr,hp,.lit undef⟩):Runs P Γ (.code .skip ro fr hp) Φ:=Runs.step (Ends.one (λ_=>rfl) h)
theorem iP{ro:Option Nat}{fr:Fr}{hp:Hp}{Φ:Out->Prop}(h:Φ ⟨.ret,fr,hp,.lit undef⟩):Runs P Γ (.code .ret ro fr hp) Φ:=Runs.step (Ends.one (λ_=>rfl) h)
theorem jS{id:Nat}{ro:Option Nat}{fr:Fr}{hp:Hp}{Φ:Out->Prop}(h:Φ ⟨.exit id,fr,hp,.lit undef⟩):Runs P Γ (.code (.exit id) ro fr hp) Φ:=Runs.step (Ends.one (λ_=>rfl) h)
theorem bJ{a b:Code}{ro:Option Nat}{fr:Fr}{hp:Hp}{Φ:Out->Prop}(h:Runs P Γ (.code a ro fr hp) (E9 (λf p=>Runs P Γ (.code b ro f p) Φ) Φ)):Runs P Γ (.code (.seq a b) ro fr hp) Φ:=
 Runs.step (xU (g:=λn f p=>f8 P Γ theMem n (.code b ro f p)) h λn l hl=>by simp only[hU,bO];rw[hl])
theorem gg{c:Code}{ro:Option Nat}{fr:Fr}{hp:Hp}{Φ:Out->Prop}(h:Runs P Γ (.code c ro fr hp) (E9 (λf p=>Runs P Γ (.code (.loop c) ro f p) Φ) Φ)):Runs P Γ (.code (.loop c) ro fr hp) Φ:=
 Runs.step (xU (g:=λn f p=>f8 P Γ theMem n (.code (.loop c) ro f p)) h λn l hl=>by simp only[hU,bO];rw[hl])
theorem eX{c:Operand}{x y:Code}{ro:Option Nat}{fr:Fr}{hp:Hp}{Φ:Out->Prop}(b:Bool)(hc:fr.ev c=.lit (.bool b))(h:Runs P Γ (.code (bif b then x else y) ro fr hp) Φ):Runs P Γ (.code (.cond c x y) ro fr hp) Φ:=by
 refine Runs.step (Ends.eq h λn=>?_);simp only[hU,bO];rw[hc];cases b<;>rfl
def lh(id:Nat)(x:Out):Out:=match x.exit with
 | .exit k=>bif Nat.beq k id then{x with exit:=.normal}else x
 |_=>x
theorem d7{id:Nat}{c:Code}{ro:Option Nat}{fr:Fr}{hp:Hp}{Φ:Out->Prop}(h:Runs P Γ (.code c ro fr hp) λo=>Φ (lh id o)):Runs P Γ (.code (.block id c) ro fr hp) Φ:=by
 obtain⟨N,l,h1,h2⟩:=h;refine Runs.step ⟨N,l.map (lh id),λn hn=>?_,λx hx=>?_⟩
 .have e:f8 P Γ theMem n (.code c ro fr hp)=some l:=h1 n hn;simp only[hU,bO,e];rfl
 .obtain⟨y,hy,rfl⟩:=List.mem_map.1 hx;exact h2 y hy
def cr(P:Program)(Γ:Glob)(ops:Array Oper)(l:List Oper)(fr:Fr)(hp:Hp)(Φ:Out->Prop):Prop:=Ends (λn=>iM P Γ (f8 P Γ theMem n) ops l fr hp) Φ
theorem bC{id:Nat}{ops:Array Oper}{ro:Option Nat}{fr:Fr}{hp:Hp}{Φ:Out->Prop}(h:cr P Γ ops ops.toList fr hp Φ):Runs P Γ (.code (.region id ops false) ro fr hp) Φ:=Runs.step h
theorem zQ{id:Nat}{ops:Array Oper}{ro:Option Nat}{fr:Fr}{hp:Hp}{Φ:Out->Prop}(hf:eJ ops ops.toList 0=true)(h:Ends (λn=>drawn P Γ (f8 P Γ theMem n) ops (ops.size+1) 0 [] fr hp) Φ):Runs P Γ (.code (.region id ops true) ro fr hp) Φ:=by
 refine Runs.step (Ends.eq h λn=>?_);simp only[hU,bO];rw[hf];rfl
theorem cn{ops:Array Oper}{fr:Fr}{hp:Hp}{Φ:Out->Prop}(h:Φ ⟨.normal,fr,hp,.lit undef⟩):cr P Γ ops [] fr hp Φ:=Ends.one (λ_=>rfl) h
theorem iT{ops:Array Oper}{o:Oper}{l:List Oper}{fr:Fr}{hp:Hp}{Φ:Out->Prop}(h:Ends (λn=>oper P Γ (f8 P Γ theMem n) ops fr hp o) λx=>cr P Γ ops l x.1 x.2 Φ):cr P Γ ops (o::l) fr hp Φ:=
 Ends.bind (α:=Fr×Hp) (g:=λn (x:Fr×Hp)=>iM P Γ (f8 P Γ theMem n) ops l x.1 x.2) (Φ:=λx=>cr P Γ ops l x.1 x.2 Φ) h (λ_ hx=>hx) λn xs hxs=>by simp only[iM];rw[hxs]
theorem oA{ops:Array Oper}{o:Oper}{l:List Oper}{fr fr':Fr}{hp:Hp}{Φ:Out->Prop}{v:SV}{fs:List Fact}(hw:cL ops fr o=some true)(hq:quiet P Γ hp fr.ev o.op=some (v,fs))(hput:fr.put o.dst v=some fr')
 (h:cr P Γ ops l fr' hp Φ):cr P Γ ops (o::l) fr hp Φ:=
 iT (Ends.one (x:=(fr',hp)) (λn=>by simp only[oper,hw,tG hq,hput,af]) h)
theorem uU{ops:Array Oper}{o:Oper}{l:List Oper}{fr fr':Fr}{hp:Hp}{Φ:Out->Prop}(hw:cL ops fr o=some false)(hput:fr.put o.dst (.lit undef)=some fr')(h:cr P Γ ops l fr' hp Φ):cr P Γ ops (o::l) fr hp Φ:=
 iT (Ends.one (x:=(fr',hp)) (λn=>by simp only[oper,hw,hput,af]) h)
theorem xm{ops:Array Oper}{o:Oper}{l:List Oper}{fr fr':Fr}{hp hp':Hp}{Φ:Out->Prop}{v:SV}(hw:cL ops fr o=some true)(hq:jD P Γ hp fr.ev o.op=none)(hc:cz fr.ev o.op=none)
 (he:effect P Γ hp fr.ev o.op=some [(v,hp')]) (hn:hp.next<=hp'.next) (hput:fr.put o.dst v=some fr') (h:cr P Γ ops l fr' hp' Φ):cr P Γ ops (o::l) fr hp Φ:=
 iT (Ends.one (x:=(fr',hp')) (λn=>by
  simp only[oper,hw,hq,lW,hc,he,al,List.all_nil,ai hn,aF,bf,ew,hput,af];rfl) h)
theorem qH[Mute Γ]{ops:Array Oper}{o:Oper}{l:List Oper}{fr fr':Fr}{hp hp':Hp}{Φ:Out->Prop}{v:SV}(hw:cL ops fr o=some true)(hq:quiet P Γ hp fr.ev o.op=none)(hc:cz fr.ev o.op=none)
 (he:effect P Γ hp fr.ev o.op=some [(v,hp')]) (hn:hp.next<=hp'.next) (hput:fr.put o.dst v=some fr') (h:cr P Γ ops l fr' hp' Φ):cr P Γ ops (o::l) fr hp Φ:=
 xm hw (fh hq) hc he hn hput h
theorem oC{α β γ:Type}(f:β->Option (List γ))(g:α->β):∀l:List α,ew f (l.map g)=ew (λa=>f (g a)) l
 |[]=>rfl
 |a::l=>by simp only[ax,ew,oC f g l]
theorem Dl{ops:Array Oper}{o:Oper}{l:List Oper}{fr:Fr}{hp:Hp}{Φ:Out->Prop}{f:FuncId}{args:List SV}(hw:cL ops fr o=some true)(hq:jD P Γ hp fr.ev o.op=none)(hc:cz fr.ev o.op=some (.fn f args))
 (hcl:gw P hp f args=none) (h:Runs P Γ (.call f args hp) λr=>∃fr',fr.put o.dst r.v=some fr'/\cr P Γ ops l fr' r.hp Φ):cr P Γ ops (o::l) fr hp Φ:=by
 refine iT (Ends.bind (g:=λ_ r=>(fr.put o.dst r.v).map λf=>[(f,r.hp)]) h (λr hr=>?_) λn xs hxs=>?_)
 .obtain⟨fr',h1,h2⟩:=hr;exact Ends.one (x:=(fr',r.hp)) (λ_=>by rw[h1];rfl) h2
 .simp only[oper,hw,hq,lW,hc,hcl,hxs,af];exact oC _ _ xs
theorem Gu[Mute Γ]{ops:Array Oper}{o:Oper}{l:List Oper}{fr:Fr}{hp:Hp}{Φ:Out->Prop}{f:FuncId}{args:List SV}(hw:cL ops fr o=some true)(hq:quiet P Γ hp fr.ev o.op=none)(hc:cz fr.ev o.op=some (.fn f args))
 (hcl:gw P hp f args=none) (h:Runs P Γ (.call f args hp) λr=>∃fr',fr.put o.dst r.v=some fr'/\cr P Γ ops l fr' r.hp Φ):cr P Γ ops (o::l) fr hp Φ:=
 Dl hw (fh hq) hc hcl h
theorem eA{f:FuncId}{fn:Func}{c:Code}{args:List SV}{hp:Hp}{Φ:Out->Prop}(hf:P.funcs[f]? =some fn)(hb:fn.body=some c)
 (h:Runs P Γ (.code c none ⟨T.ofList args 0 .leaf,Nat.max fn.ntmps args.length,[]⟩ hp) λo=>∃r,g8 P Γ fn o=some [r]/\Φ r) (hm:theMem f args hp=none:=by rfl):Runs P Γ (.call f args hp) Φ:=by
 refine Runs.step (Ends.bind (g:=λ_ o=>g8 P Γ fn o) h (λo ho=>?_) λn xs hxs=>?_)
 .obtain⟨r,h1,h2⟩:=ho;exact Ends.one (λ_=>h1) h2
 .simp only[hU,hm,bO,hf,hb,hxs]
theorem lV{f:FuncId}{args:List SV}{hp:Hp}{outs:List Out}{Φ:Out->Prop}(hm:theMem f args hp=some outs)(h:∀o∈outs,Φ o):Runs P Γ (.call f args hp) Φ:=
 ⟨1,outs,λn hn=>by
   obtain⟨m,rfl⟩:∃m,n=m+1:=⟨n-1,by omega⟩;show hU P Γ theMem (f8 P Γ theMem m) (.call f args hp)=some outs;simp only[hU,hm],h⟩
end
theorem bU(tm:T SV)(n:Nat)(ms:List Nat)(d t:Nat)(v:SV):Fr.ev ⟨tm.set d v,n,ms⟩ (.tmp t)=if t=d then v else Fr.ev ⟨tm,n,ms⟩ (.tmp t):=by
 simp only[Fr.ev,T.get_set];by_cases h:t=d
 .rw[bi h,bi h]
 .rw[bh h,bh h]
structure Kept(lo:Nat)(h h':Hp):Prop where
 next:h.next<=h'.next
 old:∀b,b<lo->h'.objs.get b=h.objs.get b
theorem Kept.refl(lo:Nat)(h:Hp):Kept lo h h:=⟨av _,λ_ _=>rfl⟩
theorem Kept.trans{lo:Nat}{a b c:Hp}(h:Kept lo a b)(h':Kept lo b c):Kept lo a c:=⟨Nat.le_trans h.next h'.next,λk hk=>(h'.old k hk).trans (h.old k hk)⟩
theorem Kept.less{lo lo':Nat}{a b:Hp}(h:Kept lo a b)(hl:lo'<=lo):Kept lo' a b:=⟨h.next,λk hk=>h.old k bj⟩
theorem Eg(l:List SV):cut l 0 l.length=some l:=by
 simp only[cut,List.drop_zero,List.take_length];rw[fl rfl];rfl
section
variable {P:Program}{Γ:Glob}
theorem Dw{α β:Type}(f:α->Option (List β))(a:α):ew f [a]=f a:=by
 simp only[ew];cases f a with
 |none=>rfl
 |some x=>simp
def nY(P:Program)(Γ:Glob)(ops:Array Oper)(k mask:Nat)(held:List Held)(fr:Fr)(hp:Hp)(Φ:Out->Prop):Prop:=Ends (λn=>drawn P Γ (f8 P Γ theMem n) ops k mask held fr hp) Φ
theorem AC{id:Nat}{ops:Array Oper}{ro:Option Nat}{fr:Fr}{hp:Hp}{Φ:Out->Prop}(hf:eJ ops ops.toList 0=true)(h:nY P Γ ops (ops.size+1) 0 [] fr hp Φ):Runs P Γ (.code (.region id ops true) ro fr hp) Φ:=zQ hf h
variable {ops:Array Oper}{k mask:Nat}{held:List Held}{fr:Fr}{hp:Hp}{Φ:Out->Prop}{m':Nat}{held':List Held}{fr':Fr}{hp':Hp}
variable {o:Oper}{rest:List Oper}{i:Nat}{res:Option (Nat×List Held×Fr×Hp)}
theorem D9(hm:Nat.testBit mask i=true)(h:ct P Γ ops rest (i+1) mask held fr hp=res):ct P Γ ops (o::rest) i mask held fr hp=res:=by
 rw[<-h,ct,hm,bf]
theorem DY(hm:Nat.testBit mask i=false)(hd:Nat.beq (Nat.land (depsOf o) mask) (depsOf o)=false)(h:ct P Γ ops rest (i+1) mask held fr hp=res):ct P Γ ops (o::rest) i mask held fr hp=res:=by
 rw[<-h,ct,hm,bg,hd,bg]
end
def RowIs(h:Hp)(lo bl:Nat)(e:TypeId)(size:Nat)(v:SV)(l:List (List SV)):Prop:=
 (v=.lit (.slice none 0 0)/\l=[])\/(v=.row bl 0 l.length l.length bl/\lo<=bl/\bl<h.next/\h.objs.get bl=some (.row l.flatten e l.length bl size))
theorem RowIs.same{h:Hp}{lo bl:Nat}{e:TypeId}{size:Nat}{v:SV}{l:List (List SV)}(hr:RowIs h lo bl e size v l):SV.one v=true/\SV.sameL [v] [v]=true:=by
 rcases hr with⟨rfl,_⟩|⟨rfl,_⟩
 .exact⟨rfl,rfl⟩
 .refine⟨rfl,?_⟩;simp[SV.sameL,SV.same]
theorem RowIs.kept{h h':Hp}{lo bl:Nat}{e:TypeId}{size:Nat}{v:SV}{l:List (List SV)}(hr:RowIs h lo bl e size v l)(hn:h.next<=h'.next)(hg:bl<h.next->lo<=bl->h'.objs.get bl=h.objs.get bl):RowIs h' lo bl e size v l:=by
 rcases hr with hr|⟨r1,r2,r3,r4⟩
 .exact .inl hr
 .exact .inr ⟨r1,r2,by omega,(hg r3 r2).trans r4⟩
theorem el{size:Nat}:∀{l:List (List SV)},(∀x∈l,x.length=size)->l.flatten.length=l.length*size
 |[],_=>by simp
 |a::l,h=>by
  rw[aZ,ac,h a (ak ..),el λx hx=>h x (am _ hx),au,Nat.succ_mul];omega
theorem ry{P:Program}{Γ:Glob}{h:Hp}{lo bl nb:Nat}{st e:TypeId}{i:TypeInfo}{z:Value}{v:SV}{l:List (List SV)}{c:List SV}(hst:tyU P st=some (.slice e))(hi:P.info? e=some i)(hz:i.zero=some z)(hby:i.bytes<=1000)(hsz:0<i.size)(hzs:(SV.cells (.lit z)).length=i.size)
 (hr:RowIs h lo bl e i.size v l) (hlen:∀x∈l,x.length=i.size) (hc:c.length=i.size) (hone:c.all SV.one=true) (hn:l.length<=2000000) (hlo:lo<=h.next) (hnb:h.objs.get nb=some (.cells c e)):
 ∃v' h',cQ P Γ h [st,st] v (.slice nb 0 1 1)=some (v',h')/\RowIs h' lo h.next e i.size v' (l++[c])/\h'.next=h.next+1/\∀b,b<h.next->(v=.lit (.slice none 0 0)\/b≠bl)->h'.objs.get b=h.objs.get b:=by
 have hcut:cut c 0 i.size=some c:=by rw[<-hc];exact Eg c
 have hsrc:de Γ h i.size (.slice nb 0 1 1)=some (c,1):=by
  simp only[de,bF,knownCells,hnb,ay,Nat.one_mul,hcut]
 have hcond:(Nat.ble i.bytes 1000&&Nat.ble 1 2000000&&Nat.blt 0 i.size&&Nat.beq (SV.cells (.lit z)).length i.size&&Nat.beq c.length (1*i.size))=true:=by
  rw[ai hby,show Nat.blt 0 i.size=true from ai hsz,fl hzs,fl (show c.length=1*i.size by omega)];rfl
 have hflen:=el hlen;rcases hr with⟨rfl,rfl⟩|⟨rfl,h1,h2,h3⟩
 .refine⟨(dh h c e 1 i.size).1,(dh h c e 1 i.size).2,?_,.inr ⟨rfl,hlo,aq _,?_⟩,rfl,λb hb _=>?_⟩
  .simp only[cQ,hst,hi,hz,hsrc,jB,bg,hcond,bf,fH (show(1:Nat)≠0 by decide)]
  .simp only[dh,T.get_set,if_true];rw[List.nil_append,List.flatten_singleton];rfl
  .simp only[dh,T.get_set];rw[bh bj]
 .have htake:l.flatten.take (l.length*i.size)=l.flatten:=by rw[<-hflen];exact List.take_length
  refine⟨(dh ⟨h.objs.put bl none,h.next⟩ (l.flatten.take (l.length*i.size)++c) e (l.length+1) i.size).1,(dh ⟨h.objs.put bl none,h.next⟩ (l.flatten.take (l.length*i.size)++c) e (l.length+1) i.size).2,?_,.inr ⟨?_,hlo,aq _,?_⟩,rfl,λb hb hne=>?_⟩
  .have hle:Nat.ble (l.length*i.size) l.flatten.length=true:=ai (by rw[hflen];exact av _);simp only[cQ,hst,hi,hz,hsrc,jB,bg,hcond,bf,ai hn,h3,fl rfl,ai (av _),hle,hone,fH (show(1:Nat)≠0 by decide),aF]
  .simp only[dh,ac,List.length_singleton]
  .rw[htake];simp only[dh,T.get_set,if_true,ac,List.length_singleton,List.flatten_append,List.flatten_singleton]
  .simp only[dh,T.get_set,T.get_put];rw[bh bj,bh (hne.resolve_left (by intro hh;cases hh))]
theorem cA{α:Type}{t:T α}{k:Nat}{v:α}:(t.set k v).get k=some v:=by rw[T.get_set,bi rfl]
theorem cl{α:Type}{t:T α}{k j:Nat}{v:α}(h:j≠k):(t.set k v).get j=t.get j:=by rw[T.get_set,bh h]
section
variable {P:Program}{Γ:Glob}{ops:Array Oper}{o:Oper}{l:List Oper}{tm:T SV}{n d:Nat}{ms:List Nat}{hp hp':Hp}{Φ:Out->Prop}{v:SV}{fs:List Fact}
theorem ly(hd:o.dst=some d)(hn:Nat.blt d n=true):Fr.put ⟨tm,n,ms⟩ o.dst v=some ⟨tm.set d v,n,ms⟩:=by
 rw[hd];simp only[Fr.put,hn,bf]
theorem cK(hw:cL ops ⟨tm,n,ms⟩ o=some true)(hq:quiet P Γ hp (Fr.ev ⟨tm,n,ms⟩) o.op=some (v,fs))(hd:o.dst=some d)(hn:Nat.blt d n=true)(h:cr P Γ ops l ⟨tm.set d v,n,ms⟩ hp Φ):cr P Γ ops (o::l) ⟨tm,n,ms⟩ hp Φ:=
 oA hw hq (ly hd hn) h
theorem il[Mute Γ](hw:cL ops ⟨tm,n,ms⟩ o=some true)(hq:quiet P Γ hp (Fr.ev ⟨tm,n,ms⟩) o.op=none)(hc:cz (Fr.ev ⟨tm,n,ms⟩) o.op=none)(he:effect P Γ hp (Fr.ev ⟨tm,n,ms⟩) o.op=some [(v,hp')])(hx:hp.next<=hp'.next)(hd:o.dst=some d)(hn:Nat.blt d n=true)
 (h:cr P Γ ops l ⟨tm.set d v,n,ms⟩ hp' Φ):cr P Γ ops (o::l) ⟨tm,n,ms⟩ hp Φ:=
 qH hw hq hc he hx (ly hd hn) h
theorem Ae[Mute Γ](hw:cL ops ⟨tm,n,ms⟩ o=some true)(hq:quiet P Γ hp (Fr.ev ⟨tm,n,ms⟩) o.op=none)(hc:cz (Fr.ev ⟨tm,n,ms⟩) o.op=none)(he:effect P Γ hp (Fr.ev ⟨tm,n,ms⟩) o.op=some [(v,hp')])(hx:hp.next<=hp'.next)(hd:o.dst=none)
 (h:cr P Γ ops l ⟨tm,n,ms⟩ hp' Φ):cr P Γ ops (o::l) ⟨tm,n,ms⟩ hp Φ:=
 qH hw hq hc he hx (by rw[hd];rfl) h
theorem tt[Mute Γ]{f:FuncId}{args:List SV}(hw:cL ops ⟨tm,n,ms⟩ o=some true)(hq:quiet P Γ hp (Fr.ev ⟨tm,n,ms⟩) o.op=none)(hc:cz (Fr.ev ⟨tm,n,ms⟩) o.op=some (.fn f args))(hcl:gw P hp f args=none)(hd:o.dst=some d)(hn:Nat.blt d n=true)
 (h:Runs P Γ (.call f args hp) λr=>cr P Γ ops l ⟨tm.set d r.v,n,ms⟩ r.hp Φ):cr P Γ ops (o::l) ⟨tm,n,ms⟩ hp Φ:=
 Gu hw hq hc hcl (h.mono λ_ hr=>⟨_,ly hd hn,hr⟩)
theorem wx{l cs:List SV}(hl:l.length=cs.length)(h1:cs.all SV.one=true):cH l 0 cs=some cs:=by
 simp only[cH,h1,Bool.and_true,aX,List.take_zero,List.nil_append];rw[ai bj,bf,<-hl,List.drop_length,List.append_nil]
theorem oG{h:Hp}{ρ:Operand->SV}{t:TypeId}{a x:Operand}{b off m:Nat}{l l':List SV}{e:TypeId}(hs:bI P t=some m)(ha:ρ a=.ptr b off)(hx:ρ x=v)(hl:v.cells.length=m)(hb:h.objs.get b=some (.cells l e))(hsp:cH l off v.cells=some l'):
 effect P Γ h ρ (.store t a x)=some [(.lit undef,⟨h.objs.set b (.cells l' e),h.next⟩)]:=by
 simp only[effect,dA,hs,ha,hx,fl hl,bf,hb,hsp,af,Hp.upd,mi]
variable {k mask m' i:Nat}{held held':List Held}{rest:List Oper}{res:Option (Nat×List Held×Fr×Hp)}
end
section
variable {P:Program}{Γ:Glob}
theorem mC{g:Operand}{ps:Array Tmp}{assign body:Code}{fr:Fr}{hp:Hp}{f:FuncId}{args:List SV}{Φ:Out->Prop}(hc:gE (fr.ev g) (hp.next+1)=some (f,args))
 (h:Runs P Γ (.call f args ⟨(hp.objs.set hp.next (.deferred true)).set (hp.next+1) (.loop ⟨.ready,none,0,fr.tmps,fr.sz,ps,assign,body,hp.next⟩),hp.next+2⟩) λr=>∃x,gu (hp.next+1) {fr with marks:=hp.next::fr.marks} r=some [x]/\Φ x):
 Runs P Γ (.code (.rangeFunc g ps assign body) none fr hp) Φ:=by
 refine Runs.step (Ends.bind (g:=λ_ r=>gu (hp.next+1) {fr with marks:=hp.next::fr.marks} r) h (λr hr=>?_) λn l hl=>?_)
 .obtain⟨x,h1,h2⟩:=hr;exact Ends.one (λ_=>h1) h2
 .simp only[hU,bO,lR,Hp.new];have hl:f8 P Γ theMem n (.call f args ⟨(hp.objs.set hp.next (.deferred true)).set (hp.next+1) (.loop ⟨.ready,none,0,fr.tmps,fr.sz,ps,assign,body,hp.next⟩),hp.next+2⟩)=some l:=hl;simp only[hc,hl]
end
section
variable {P:Program}{Γ:Env}
def ll(P:Program)(Γ:Env)(mem:kb):Prop:=∀f args hp outs,mem f args hp=some outs->(∃fn c,P.funcs[f]? =some fn/\fn.body=some c)/\
    ∀X w0 θ K w,Rep Γ X w0 θ K hp w->SV.okL K args->CallsIn Fence.wide 0 P f (concL θ args).toArray w (CPost Γ X w0 θ K hp.next outs)
theorem yS[AskOk P Γ](hN:ed P)(hmix:P.follows .mixedOrders=true){mem:kb}(hmem:ll P Γ mem){self:Task->R}{m:Nat}(hS:Sound P Γ self)(hL:rU P Γ m self):
 Sound P Γ (hU P Γ mem self)/\rU P Γ (m+1) (hU P Γ mem self):=by
 obtain⟨h1,h2⟩:=zI hN hmix hS hL;refine⟨⟨h1.code,λf args hp outs hq=>?_,h1.round⟩,h2⟩;simp only[hU]at hq;split at hq
 .rename_i os hos;simp only[a7]at hq;subst hq;exact hmem f args hp _ hos
 .exact h1.call f args hp outs hq
theorem kx[AskOk P Γ](hN:ed P)(hmix:P.follows .mixedOrders=true){mem:kb}(hmem:ll P Γ mem):∀n,Sound P Γ (f8 P Γ mem n)/\rU P Γ n (f8 P Γ mem n)
 |0=>⟨⟨λ_ _ _ _ _ h=>(by cases h),λ_ _ _ _ h=>(by cases h),λ_ _ _ _ h=>(by cases h)⟩,λ_ _ _ _ _ h=>(by cases h)⟩
 |n+1=>yS hN hmix hmem (kx hN hmix hmem n).1 (kx hN hmix hmem n).2
theorem Rep.behind{X:Nat->Prop}{w0:World}{θ:Ren}{K:Nat->Prop}{hp:Hp}{w w':World}(hr:Rep Γ X w0 θ K hp w)(hb:Below w.heap.size w w'):Rep Γ X w0 θ K hp w':=by
 obtain⟨b1,b2,b3,b4,b5⟩:=hb;refine⟨b1.trans hr.os,b2.trans hr.tape,b3.trans hr.output,Nat.le_trans hr.size b4,λk hk=>(b5 k ?_).trans (hr.kept k hk),hr.low,hr.glob,λb o hb=>?_,hr.inj,hr.next,hr.inv⟩
 .exact aM (hr.low k hk) hr.size
 .obtain⟨k1,k2,k3,ob,k4,k5⟩:=hr.obj b o hb;exact⟨k1,k2,k3,ob,(b5 _ (Array.getElem?_eq_some_iff.1 k4).1).trans k4,k5⟩
def told(hp:Hp)(vs:List Value):List Out:=vs.map λv=>⟨.ret,⟨.leaf,0,[]⟩,hp,.lit v⟩
theorem yz[AskOk P Γ](hN:ed P)(hmix:P.follows .mixedOrders=true){mem:kb}(hmem:ll P Γ mem)(n m:Nat)(f:FuncId)(args:List SV)(θ:Ren)(w:World)(hq:u7 (f8 P Γ mem n (.call f args ⟨.leaf,m⟩))=true)
 (hΓ:globMet Γ w) (hi:Γ.inv (·<w.heap.size) w θ (·<m)) (hok:SV.okL (·<m) args):Calls P f (concL θ args).toArray w λe w'=>e=.returned (.bool true)/\Below w.heap.size w w':=by
 obtain⟨outs,ho,ht⟩:=vO hq;refine(callsIn_wide.1 (((kx hN hmix hmem n).1.call f args ⟨.leaf,m⟩ outs ho).2 _ w θ _ w (tE θ m hΓ hi) hok)).mono ?_;rintro e w' ⟨o,hm,θ',K',_,rfl,_,hrep⟩;rw[ht o hm];exact⟨rfl,hrep.below⟩
end
inductive Key where
 |bin (op:BinOp) (t:TypeId) (x y:SV)
 |len (t:TypeId) (x:SV)
 |idx (t:TypeId) (x i:SV)
 |slc (t:TypeId) (x:SV) (lo hi:Option SV)
def Kt:Option SV->Option SV->Bool
 |none,none=>true
 |some x,some y=>SV.same x y
 |_,_=>false
def Key.same:Key->Key->Bool
 | .bin o t x y,.bin o' t' x' y'=>decide (o=o')&&(Nat.beq t t'&&(SV.same x x'&&SV.same y y'))
 | .len t x,.len t' x'=>Nat.beq t t'&&SV.same x x'
 | .idx t x i,.idx t' x' i'=>Nat.beq t t'&&(SV.same x x'&&SV.same i i')
 | .slc t x l h,.slc t' x' l' h'=>Nat.beq t t'&&(SV.same x x'&&(Kt l l'&&Kt h h'))
 |_,_=>false
def Oj(hp:Hp)(v:SV):List Out:=[⟨.ret,⟨.leaf,0,[]⟩,hp,v⟩]
theorem AF{P:Program}{Γ:Env}{X:Nat->Prop}{w0:World}{θ:Ren}{K:Nat->Prop}{hp:Hp}{w:World}(hr:Rep Γ X w0 θ K hp w){f:FuncId}{args:Array Value}{v:SV}(hv:v.ok K)
 (h:Calls P f args w λe w'=>e=.returned (conc θ v)/\Below w.heap.size w w'):CallsIn Fence.wide 0 P f args w (CPost Γ X w0 θ K hp.next (Oj hp v)):=by
 refine callsIn_wide.2 (h.mono ?_);rintro e w' ⟨rfl,hb⟩;exact⟨_,aQ _,θ,K,Grow.refl _ _ _,rfl,hv,hr.behind hb⟩
open Go Go.RowKit Go.Sort
theorem zj{α β:Type}{k:Nat}(f:α->List β)(hk:∀x,(f x).length=k)(k0:0<k):∀(ds:List α) (j:Nat),((ds.map f).flatten)[j]? =(ds[j/k]?).bind λx=>(f x)[j%k]?
 |[],j=>by simp
 |a::l,j=>by
  rw[ax,aZ];by_cases hj:j<k
  .rw[aU (by rw[hk];exact hj),Nat.div_eq_of_lt hj,Nat.mod_eq_of_lt hj];rfl
  .have e:j=(j-k)+k:=by omega
   rw[List.getElem?_append_right (by rw[hk];omega),hk,zj f hk k0 l (j-k)];rw[show j/k=(j-k)/k+1 by
    conv=>lhs;rw[e]
    exact Nat.add_div_right _ k0]
   rw[show j%k=(j-k)%k by
    conv=>lhs;rw[e]
    exact Nat.add_mod_right _ _]
   rfl
theorem gd{α β:Type}{k:Nat}(f:α->List β)(hk:∀x,(f x).length=k):∀(ds:List α),((ds.map f).flatten).length=ds.length*k
 |[]=>by simp
 |a::l=>by
  rw[ax,aZ,ac,hk,gd f hk l,au,Nat.succ_mul];omega
section
variable {α:Type}[Inhabited α]{k:Nat}{enc:α->List Value}{w:World}{blk:Nat}{e:TypeId}{fr:Nat×Nat}{ex:List Value}
theorem CR(hk:∀x,(enc x).length=k)(k0:0<k)(ds:Array α)(j:Nat)(hj:j<ds.size*k):((ds.toList.map enc).flatten)[j]? =some ((enc ds[j/k]!)[j%k]!):=by
 have hd:j/k<ds.size:=Nat.div_lt_of_lt_mul (by rw[Nat.mul_comm];exact hj);rw[zj enc hk k0,aB (by simpa using hd),ay];have hm:j%k<(enc ds[j/k]!).length:=by rw[hk];exact Nat.mod_lt _ k0
 rw[show ds.toList[j/k]'(by simpa using hd)=ds[j/k]! by rw[getElem!_pos ds (j/k) hd];simp];rw[aB hm,getElem!_pos (enc ds[j/k]!) (j%k) hm]
theorem D7(hk:∀x,(enc x).length=k)(k0:0<k)(ds:List α)(hw:w.heap[blk]? =some (.cells ((ds.map enc).flatten++ex).toArray e fr))(hfr:frOk fr (((ds.map enc).flatten).length+ex.length)):HoldsK enc k w blk 0 ds.toArray:=by
 intro j hj;rw[size_flatK]at hj;have hj':j<ds.length*k:=by simpa using hj
 have hlen:=gd enc hk ds;have hat:=CR (enc:=enc) hk k0 ds.toArray j hj;constructor
 .simp only[World.cell?,hw];rw[get_flatK _ _ _ _ hj];simp only[Option.isSome_none,aA,if_false,aX,id];rw[aP,aU (by rw[hlen];exact hj')];exact hat
 .simp only[World.frozen?,hw];have:=hfr.at (0+j) (by rw[hlen];omega)
  simpa using this
theorem vC(hk:∀x,(enc x).length=k)(k0:0<k)(ds:List α)(d':Array α)(hs:d'.size=ds.length)(hw:w.heap[blk]? =some (.cells ((ds.map enc).flatten++ex).toArray e fr))(n:Nat)(os:Array Obj):
 Below (ef w blk (.cells ((d'.toList.map enc).flatten++ex).toArray e fr)).heap.size (ef w blk (.cells ((d'.toList.map enc).flatten++ex).toArray e fr)) (sortWorldK enc k w blk 0 n d' os):=by
 have hlen:=gd enc hk ds;have hlen':=gd enc hk d'.toList;have hblk:blk<w.heap.size:=(Array.getElem?_eq_some_iff.1 hw).1;have hsz:(ef w blk (.cells ((d'.toList.map enc).flatten++ex).toArray e fr)).heap.size=w.heap.size:=by simp[ef]
 have hput:putCells id 0 (flatK enc k d') ((ds.map enc).flatten++ex).toArray=((d'.toList.map enc).flatten++ex).toArray:=by
  apply Array.ext_getElem?;intro j;unfold putCells;rw[Array.getElem?_mapIdx,size_flatK,aX,aP,aP];by_cases hj:j<d'.size*k
  .have hR:((d'.toList.map enc).flatten++ex)[j]? =some ((enc d'[j/k]!)[j%k]!):=by
    rw[aU (by rw[hlen',Array.length_toList];exact hj)];exact CR hk k0 d' j hj
   have this:j<((ds.map enc).flatten++ex).length:=by rw[ac,hlen,<-hs];omega
   rw[hR,aB this,af];rw[bi ⟨Nat.zero_le _,hj⟩,Nat.sub_zero,get_flatK _ _ _ _ hj];rfl
  .have hR:((d'.toList.map enc).flatten++ex)[j]? =ex[j-ds.length*k]? :=by
    rw[List.getElem?_append_right (by rw[hlen',Array.length_toList];omega),hlen',Array.length_toList,hs]
   have hL:((ds.map enc).flatten++ex)[j]? =ex[j-ds.length*k]? :=by
    rw[List.getElem?_append_right (by rw[hlen,<-hs];omega),hlen]
   rw[hR,hL];cases ex[j-ds.length*k]? with
   |none=>rfl
   |some x=>simp[hj]
 refine⟨rfl,rfl,rfl,?_,λj hj=>?_⟩
 .rw[hsz];unfold sortWorldK putRowK;rw[size_grow,size_putRow];exact Nat.le_add_right _ _
 .rw[hsz]at hj;unfold sortWorldK putRowK;show((putRow id (Sort.ahead w n) blk 0 (flatK enc k d')).heap++os)[j]? =_;have hp:(putRow id (Sort.ahead w n) blk 0 (flatK enc k d')).heap=w.heap.modify blk (onCells (putCells id 0 (flatK enc k d'))):=rfl;rw[Array.getElem?_append_left (by rw[hp];simpa using hj),hp,Array.getElem?_modify];simp only[ef];by_cases hjb:blk=j
  .subst hjb;rw[bi rfl,hw,af,Array.getElem?_setIfInBounds];simp only[if_true,hblk];simp only[onCells,hput]
  .rw[bh hjb,Array.getElem?_setIfInBounds,bh hjb]
end
end Go.Proofs.YtbhokokpplmigaaGreatDoor.Ev
namespace Go.Proofs.YtbhokokpplmigaaGreatDoor.fr
open Go Go.Proofs.YtbhokokpplmigaaGreatDoor.Ev
section
variable {h:Hp}{I M c:Nat}{es:List (SV×SV×Nat)}{js:List Nat}
theorem wK(hc:∀e∈es,e.2.2<c):(!js.isEmpty&& !es.isEmpty&&es.all λe=>Nat.ble c e.2.2)=false:=by
 cases es with
 |nil=>simp
 |cons e l=>
  have h1:Nat.ble c e.2.2=false:=by
   have:=hc e (ak ..);cases h:Nat.ble c e.2.2 with
   |false=>rfl
   |true=>exact absurd (aG h) bj
  rw[al,h1,Bool.false_and,Bool.and_false]
theorem uz(hc:∀e∈es,e.2.2<c):(es.all λe=>Nat.blt e.2.2 c)=true:=by
 rw[aE];exact λe he=>ai (hc e he)
theorem tY(hI:h.objs.get I=some (.mapIter (some M) c js c))(hM:h.objs.get M=some (.map es c))(hc:∀e∈es,e.2.2<c)(hd:Ev.leftOf es js=[]):kE h (.ptr I 0) false=some [(.tuple [cP false],h)]:=by
 simp only[kE,hI,hM,wK hc,bg,uz hc,bf,hd]
theorem uj(hI:h.objs.get I=some (.mapIter (some M) c js c))(hM:h.objs.get M=some (.map es c))(hc:∀e∈es,e.2.2<c)(hd:Ev.leftOf es js≠[]):kE h (.ptr I 0) false=some ((Ev.leftOf es js).map λe=>(.tuple [cP true,e.1,e.2.1],h.upd I (.mapIter (some M) c (js++[e.2.2]) c))):=by
 simp only[kE,hI,hM,wK hc,bg,uz hc,bf]
theorem tR:∀{es:List (SV×SV×Nat)} {e:SV×SV×Nat},(es.map λe=>e.2.2).Nodup->e∈es->es.find? (λx=>Nat.beq x.2.2 e.2.2)=some e
 |[],_,_,h=>by cases h
 |a::l,e,hn,h=>by
  have hn:=List.nodup_cons.1 hn;rw[List.find?_cons];rcases aD.1 h with rfl|h
  .rw[Nat.beq_refl]
  .have hne:Nat.beq a.2.2 e.2.2=false:=by
    cases hb:Nat.beq a.2.2 e.2.2 with
    |false=>rfl
    |true=>exact absurd (List.mem_map.2 ⟨e,h,(aj hb).symm⟩) hn.1
   rw[hne];exact tR hn.2 h
theorem yE{e:SV×SV×Nat}(hI:h.objs.get I=some (.mapIter (some M) c (js++[e.2.2]) c))(hM:h.objs.get M=some (.map es c))(hn:(es.map λe=>e.2.2).Nodup)(he:e∈es):kW h (.ptr I 0)=some (.tuple [e.1,e.2.1],h):=by
 simp only[kW,hI,List.getLast?_append,List.getLast?_singleton,Option.some_or,hM,Nat.beq_refl,bf,tR hn he]
theorem D6{e:SV×SV×Nat}(hn:(es.map λe=>e.2.2).Nodup)(he:e∈Ev.leftOf es js):∃l1 l2,Ev.leftOf es js=l1++e::l2/\Ev.leftOf es (js++[e.2.2])=l1++l2:=by
 obtain⟨l1,l2,h⟩:=List.append_of_mem he;refine⟨l1,l2,h,?_⟩;have h1:Ev.leftOf es (js++[e.2.2])=(Ev.leftOf es js).filter λx=> !(x.2.2==e.2.2):=by
  rw[Ev.leftOf,Ev.leftOf,List.filter_filter];congr 1;funext x;rw[List.contains_append,Bool.not_or,Bool.and_comm,List.contains_cons,List.contains_nil,Bool.or_false]
 have h2:((l1++e::l2).map λe=>e.2.2).Nodup:=by
  rw[<-h];exact hn.sublist (List.filter_sublist.map _)
 rw[aH,ax,List.nodup_append]at h2;obtain⟨_,h3,h4⟩:=h2;have h3:=(List.nodup_cons.1 h3).1;have ne1:∀x∈l1,(!(x.2.2==e.2.2))=true:=λx hx=>by
  simpa using h4 _ (List.mem_map.2 ⟨x,hx,rfl⟩) _ (ak ..)
 have ne2:∀x∈l2,(!(x.2.2==e.2.2))=true:=λx hx=>by
  simpa using λhh:x.2.2=e.2.2=>h3 (List.mem_map.2 ⟨x,hx,hh⟩)
 rw[h1,h,List.filter_append,List.filter_cons,List.filter_eq_self.2 ne1,List.filter_eq_self.2 ne2];simp
structure Left{κ:Type}(kv:κ->SV)(es:List (SV×SV×Nat))(ks:List κ)(js:List Nat)(zs:List κ):Prop where
 rest:∃rl:List κ,(Ev.leftOf es js).map (·.1)=rl.map kv/\(zs++rl).Perm ks
variable {κ:Type}{kv:κ->SV}{ks zs:List κ}
theorem Left.start(h:es.map (·.1)=ks.map kv):Left kv es ks [] []:=
 ⟨ks,by rw[show Ev.leftOf es []=es by simp[Ev.leftOf]];exact h,List.Perm.refl _⟩
theorem Left.done(w:Left kv es ks js zs)(hd:Ev.leftOf es js=[]):zs.Perm ks:=by
 obtain⟨rl,h1,h2⟩:=w.rest;rw[hd]at h1;obtain rfl:rl=[]:=List.map_eq_nil_iff.1 h1.symm
 simpa using h2
theorem Left.step{e:SV×SV×Nat}(w:Left kv es ks js zs)(hn:(es.map λe=>e.2.2).Nodup)(he:e∈Ev.leftOf es js):∃k,e.1=kv k/\Left kv es ks (js++[e.2.2]) (zs++[k]):=by
 obtain⟨rl,h1,h2⟩:=w.rest;obtain⟨l1,l2,e1,e2⟩:=D6 hn he;rw[e1,aH,ax]at h1;obtain⟨r1,r2,rfl,hr1,hr2⟩:=List.map_eq_append_iff.1 h1.symm;obtain⟨k,r3,rfl,hk,hr3⟩:=List.map_eq_cons_iff.1 hr2;refine⟨k,hk.symm,r1++r3,by rw[e2,aH,aH,hr1,hr3],?_⟩;refine List.Perm.trans ?_ h2;rw[aC];exact List.Perm.append_left zs (List.perm_middle (l₁:=r1)).symm
theorem Left.more(w:Left kv es ks js zs)(hl:Ev.leftOf es js≠[]):zs.length<ks.length:=by
 obtain⟨rl,h1,h2⟩:=w.rest;have:=h2.length_eq;rw[ac]at this;cases rl with
 |nil=>exact absurd (List.map_eq_nil_iff.1 h1) hl
 |cons a l=>rw[au]at this;omega
end
end Go.Proofs.YtbhokokpplmigaaGreatDoor.fr
