/-
  A part of the proof of FileReads; no condition.
-/
import Derived.Test.YtbhokokpplmigaaGreatDoorFaGA
import Derived.Lib.IndexMore
import Derived.Lib.Strings
import Derived.Lib.Join
import Derived.Lib.Replace
import Derived.Lib.ItoaLen
import Derived.Lib.AtoiAllCases
set_option linter.all false
namespace Go.Proofs.YtbhokokpplmigaaGreatDoor.Sx
open Go Go.Proofs.YtbhokokpplmigaaGreatDoor.Ev
set_option maxRecDepth 20000
set_option maxHeartbeats 4000000
variable (Γ:Glob)[Mute Γ]{Z0 h:Hp}{l:List Asrt}
theorem Ka0{P:Prop}(h:P:=by first|omega|(and_intros<;>intros<;>and_intros<;>first|omega|assumption|assumption|exact V1)):P:=h
theorem xz:gC Tryz.prog 5 1:=by
 have h:(Tryz.prog.info? 5).isSome=true:=bm;obtain⟨i,hi⟩:=Option.isSome_iff_exists.1 h;have h2:((Tryz.prog.info? 5).bind (·.zero)).isSome=true:=bm;rw[hi]at h2;obtain⟨z,hz⟩:=Option.isSome_iff_exists.1 h2;have h3:((Tryz.prog.info? 5).map λi=>Nat.beq i.size 1&&(Nat.ble i.bytes 1000&&(i.zero.map λz=>Nat.beq (SV.cells (.lit z)).length 1).getD false))=some true:=bm;have hz':i.zero=some z:=hz;rw[hi,af,hz',af,Option.getD_some,a7,a8,a8]at h3;exact⟨i,z,hi,hz',aj h3.1,aG h3.2.1,aj h3.2.2⟩
theorem w1r{Γ:Glob}{f:FuncId}{args:List SV}{h h':Hp}{v:SV}{Φ:Out->Prop}(hm:theMem f args h=ig h' v)(hp:Φ ⟨.ret,⟨.leaf,0,[]⟩,h',v⟩):Runs Tryz.prog Γ (.call f args h) Φ:=
 lV hm λo ho=>by rw[List.mem_singleton.1 ho];exact hp
theorem Jw{Γ:Glob}{B:Nat}{p v:SV}{Z0 h:Hp}{l:List Asrt}(hp:(oneS p)=.lit (.pointer none)\/(oneS p)=.ptr B 0)(hs:St Z0 (own B (.cells [(oneS p),(oneS v)] 58)::l) h):Runs Tryz.prog Γ (.call 39 [.ptr B 0] h) λoq=>∃Z',Sub Z0 Z'/\(True)/\oq.v=.tuple []/\St Z' (own B (.cells [.ptr B 0,(oneS v)] 58)::l) oq.hp:=by
 have hg:=(St.get (l:=[]) hs).1;rcases hp with e|e
 .rw[e]at hg;refine w1r (h':=h.upd B (.cells [.ptr B 0,oneS v] 58)) (v:=.tuple []) (show ccW [.ptr B 0] h=_ from ?_) ⟨Z0,Sub.refl _,trivial,rfl,hs.set0⟩;simp only[ccW,hg,Nat.beq_refl,(iZ v).1,aF,bf]
 .rw[e]at hg hs;refine w1r (h':=h) (v:=.tuple []) (show ccW [.ptr B 0] h=_ from ?_) ⟨Z0,Sub.refl _,trivial,rfl,hs⟩;simp only[ccW,hg,Nat.beq_refl,aF,bf]
theorem w2r(B:Nat)(p v:SV)(hp:(oneS p)=.lit (.pointer none)\/(oneS p)=.ptr B 0)(hs:St Z0 (own B (.cells [(oneS p),(oneS v)] 58)::l) h):RC Γ Z0 39 [.ptr B 0] h λZq vq hq=>(True)/\vq=.tuple []/\St Zq (own B (.cells [.ptr B 0,(oneS v)] 58)::l) hq:=by
 exact Jw hp hs
abbrev w3Q(Γ:Glob)(B:Nat)(s:bn)(p v:SV)(L:bn):TG:=λl Zq vq hq=>∃n:Int,∃v2:SV,((L++s=[]->oneS v=.lit mt->oneS v2=.lit mt))/\vq=.tuple [iV n,.lit .nilIface]/\St Zq (own B (.cells [.ptr B 0,(oneS v2)] 58)::lsA 5 1 byE (oneS v2) (L++s)::l) hq
theorem w3r(B:Nat)(s:bn)(p v:SV)(L:bn)(hp:(oneS p)=.lit (.pointer none)\/(oneS p)=.ptr B 0)(hl:(L.length:Int)+s.length<=1000000)(hs:St Z0 (own B (.cells [(oneS p),(oneS v)] 58)::lsA 5 1 byE (oneS v) L::l) h):RC Γ Z0 15 [.ptr B 0,sV s] h (w3Q Γ B s p v L l):=by
 refine bL Tryz.f15 Tryz.func15 [.ptr 0 0,vT 0] [.blk 0 [.raw 0,.raw 1] 58,.asr 0] ⟨0,1,0,2,1,1⟩ (va {t:=[s],r:=[p,v],n:=[B],a:=[lsA 5 1 byE (oneS v) L]}) (.call 39 [.ptr 0 0] [.blk 0 [.raw 0,.raw 1] 58] (.tup []) [.blk 0 [.ptr 0 0,.raw 2] 58] ⟨0,1,0,3,1,1⟩<|.eff (.app [56,9] (.raw 2) (vT 0)) [.asr 0] (.raw 3) [.asr 1] ⟨0,1,0,4,1,2⟩<|.ret (.tup [I (.len (.tv 0)),.lit .nilIface]) [.blk 0 [.ptr 0 0,.raw 3] 58,.asr 1]) hs ?_;refine dcU {r:=[v]} (λ_ _=>w2r Γ B p v Ka0) λZ=>?_;refine dJ (λ(v1:SV)=>{r:=[v1],a:=[lsA 5 1 byE (oneS v1) (L++s)]}) (λ(v1:SV)=>((L++s)=[]->(oneS v)=.lit mt->oneS v1=.lit mt)) (λl h hs=>JX (m:=l) (h:=h) (s:=s) rfl rfl rfl xz hs Ka0 Ka0) λv1 qe1=>?_;exact an λh hs=>⟨(s.length:Int),v1,by first|assumption|trivial,rfl,hs⟩
abbrev w4Q(Γ:Glob)(B:Nat)(c:Int)(p v:SV)(L:bn):TG:=λl Zq vq hq=>∃v2:SV,(True)/\vq=.lit .nilIface/\St Zq (own B (.cells [.ptr B 0,(oneS v2)] 58)::lsA 5 1 byE (oneS v2) (L++[UInt8.ofNat (Int.toNat c)])::l) hq
theorem w4r(B:Nat)(c:Int)(p v:SV)(L:bn)(hp:(oneS p)=.lit (.pointer none)\/(oneS p)=.ptr B 0)(hl:(L.length:Int)<=1000000)(hc:0<=c/\c<256)(hs:St Z0 (own B (.cells [(oneS p),(oneS v)] 58)::lsA 5 1 byE (oneS v) L::l) h):RC Γ Z0 17 [.ptr B 0,yV c] h (w4Q Γ B c p v L l):=by
 refine bL Tryz.f17 Tryz.func17 [.ptr 0 0,.int .u8 (.v 0)] [.blk 0 [.raw 0,.raw 1] 58,.asr 0] ⟨1,0,0,2,1,1⟩ (va {i:=[c],r:=[p,v],n:=[B],a:=[lsA 5 1 byE (oneS v) L]}) (.call 39 [.ptr 0 0] [.blk 0 [.raw 0,.raw 1] 58] (.tup []) [.blk 0 [.ptr 0 0,.raw 2] 58] ⟨1,0,0,3,1,1⟩<|.new<|.eff (.app [56,56] (.raw 2) (.slice 1 0 1 1)) [.asr 0,.blk 1 [.int .u8 (.v 0)] 5] (.raw 3) [.asr 1] ⟨1,0,0,4,2,2⟩<|.ret (.lit .nilIface) [.blk 0 [.ptr 0 0,.raw 3] 58,.asr 1]) hs ?_;refine dcU {r:=[v]} (λ_ _=>w2r Γ B p v Ka0) λZ=>?_;refine bA λbk1=>?_;refine dJ (λ(v1:SV)=>{r:=[v1],a:=[lsA 5 1 byE (oneS v1) (L++[UInt8.ofNat (Int.toNat c)])]}) (λ_=>True) (λl h hs=>iu (m:=l) (h:=h) rfl xz (by decide) hs (by first|rfl|first|(show byE (UInt8.ofNat (Int.toNat c))=[SV.lit (.int .u8 c)];exact mu bj bj)|(show[SV.lit (.int .u8 c)]=byE (UInt8.ofNat (Int.toNat c));exact mu bj bj)|exact mu bj bj) rfl (by first|rfl|exact(byE_ok (UInt8.ofNat (Int.toNat c))).2) Ka0) λv1 _=>?_;exact an λh hs=>⟨v1,by first|trivial|omega|(and_intros<;>intros<;>and_intros<;>first|trivial|omega|assumption|exact V1),rfl,hs⟩
def cj(z:Int):bn:=Go.Lib.itoa z
def isErr(v:SV):Bool:=match v with
 | .iface .. =>true
 |_=>false
structure ErrOk(er:SV):Prop where
 n:∀xo v,binQ Tryz.prog .neq 61 xo (.const v) (oneS er) (.lit .nilIface)=some (bV (isErr (oneS er)))
 e:∀xo v,binQ Tryz.prog .eql 61 xo (.const v) (oneS er) (.lit .nilIface)=some (bV (!isErr (oneS er)))
theorem CQ{er:SV}(w:ErrOk er)(xo:Operand)(v:Value):one (binQ Tryz.prog .neq 61 xo (.const v) (oneS er) (.lit .nilIface))=some (bV (isErr (oneS er)),[]):=by rw[w.n];rfl
theorem Jb{er:SV}(w:ErrOk er)(xo:Operand)(v:Value):one (binQ Tryz.prog .eql 61 xo (.const v) (oneS er) (.lit .nilIface))=some (bV (!isErr (oneS er)),[]):=by rw[w.e];rfl
theorem rW{g:bn->bn->Option SV}{s p:bn}{v:SV}{h:Hp}(e:g s p=some v):mM g [sV s,sV p] h=ig h v:=by
 unfold mM;simp only[e]
theorem leS{s:bn}{n:Nat}(h:(s.length:Int)<=n):Nat.ble s.length n=true:=ai bj
theorem Ir{s p:bn}(h:(s.length:Int)<=1000000):Ib s p=some (.tuple [sV (Go.Lib.cut s p).1,sV (Go.Lib.cut s p).2.1,bV (Go.Lib.cut s p).2.2]):=by unfold Ib;rw[leS h];rfl
theorem HB{s p:bn}(h:(s.length:Int)<=1000000):xV s p=some (.tuple [sV (Go.Lib.trimSuffix s p),bV (Go.Lib.hasSuffix s p)]):=by unfold xV;rw[leS h];rfl
theorem Fg{s c n:bn}{h:Hp}(h1:(s.length:Int)<=100000)(h2:(c.length:Int)=1)(h3:(n.length:Int)<=100):tp [sV s,sV c,sV n] h=ig h (sV (Go.Lib.replaceAll s c n)):=by
 simp only[tp];rw[leS h1,leS h3,show Nat.beq c.length 1=true from by rw[show c.length=1 by omega];rfl];rfl
theorem Gl{z:Int}{h:Hp}(hz: TE z):sU [iV z] h=ig h (sV (cj z)):=by
 simp only[sU];rw[bd hz.1,bd (show z<=9223372036854775807 by omega)];rfl
theorem LW{s:bn}{c:Int}{h:Hp}:ixW [sV s,yV c] h=ig h (iV (Go.Lib.indexByte s c.toNat.toUInt8)):=rfl
theorem zl{c:UInt8}:∀s:bn,-1<=Go.Lib.indexByte s c/\Go.Lib.indexByte s c<(s.length:Int)
 |[]=>by unfold Go.Lib.indexByte;simp
 |a::l=>by
  have:=zl (c:=c) l;unfold Go.Lib.indexByte;rw[au];split<;>(try split)<;>omega
theorem F3{Z h:Hp}{m:List Asrt}{e:TypeId}{v:SV}{k:List (List SV)}(s:St Z (dL e 1 v k::m) h):lsC v h e=some k.flatten:=by
 obtain⟨_,⟨rfl,rfl,_⟩|⟨b,o,h1,_,⟨cs,h3,h4⟩,_⟩⟩:=dR s
 .rfl
 .rw[Nat.mul_one]at h4;rcases h3 with⟨c,rfl,h5,h6,h7,h8⟩|⟨c,rfl,h5,h6,h7⟩
  .obtain rfl:=ab h7;simp only[lsC,h1,jL (show cs.length=c by omega),ai h5,ai h6,Nat.beq_refl,aF,bf,h4]
  .obtain rfl:=ab h6;simp only[lsC,h1,ai h5,ai (show k.length<=cs.length by omega),Nat.beq_refl,aF,bf,h4]
theorem EB{Z h:Hp}{m:List Asrt}{e:TypeId}{size:Nat}{v:SV}{k:List (List SV)}(s:St Z (dL e size v k::m) h):oneS v=v:=by
 obtain⟨_,⟨rfl,_,_⟩|⟨b,o,_,_,⟨cs,⟨c,rfl,_⟩|⟨c,rfl,_⟩,_⟩,_⟩⟩:=dR s
 .exact cm rfl (by simp[SV.same,dr])
 .exact cm rfl (by simp only[SV.same,bb,aF])
 .exact cm rfl (by simp only[SV.same,bb,aF])
section
variable {Γ:Glob}[Mute Γ]{B:Nat}{L:bn}{Z0 h:Hp}{l:List Asrt}
theorem qc(hs:St Z0 (cp B L::l) h):∃p v,(oneS p=.lit (.pointer none)\/oneS p=.ptr B 0)/\(L=[]->oneS v=.lit mt)/\St Z0 (own B (.cells [oneS p,oneS v] 58)::lsA 5 1 byE (oneS v) L::l) h:=by
 obtain⟨v,hs⟩:=eL.1 hs;obtain⟨p,hs⟩:=eL.1 (cO.1 hs);obtain⟨⟨hp,hv⟩,hs⟩:=i1.1 (cO.1 hs);have e1:oneS p=p:=by rcases hp with rfl|rfl<;>exact cm rfl (by simp[SV.same,dr])
 have e2:oneS v=v:=EB hs.rot1;exact⟨p,v,by rw[e1];exact hp,by rw[e2];exact hv,by rw[e1,e2];exact hs⟩
theorem uw{v:SV}(hv:L=[]->oneS v=.lit mt)(hs:St Z0 (own B (.cells [.ptr B 0,oneS v] 58)::lsA 5 1 byE (oneS v) L::l) h):St Z0 (cp B L::l) h:=
 eL.2 ⟨oneS v,cO.2 (eL.2 ⟨.ptr B 0,cO.2 (i1.2 ⟨⟨.inr rfl,hv⟩,hs⟩)⟩)⟩
theorem Ln{s:bn}(hl:(L.length:Int)+s.length<=1000000)(hs:St Z0 (cp B L::l) h):Runs Tryz.prog Γ (.call 15 [.ptr B 0,sV s] h) λoq=>∃Z',Sub Z0 Z'/\∃n:Int,(True)/\oq.v=.tuple [iV n,.lit .nilIface]/\St Z' (cp B (L++s)::l) oq.hp:=by
 obtain⟨p,v,hp,hv,hs⟩:=qc hs;refine(w3r Γ B s p v L hp hl hs).mono ?_;rintro o ⟨Z',z,n,v2,hq,hv2,hs2⟩;exact⟨Z',z,n,trivial,hv2,uw (λe=>hq e (hv (List.append_eq_nil_iff.1 e).1)) hs2⟩
theorem Li{c:Int}(hl:(L.length:Int)<=1000000)(hc:0<=c/\c<256)(hs:St Z0 (cp B L::l) h):Runs Tryz.prog Γ (.call 17 [.ptr B 0,yV c] h) λoq=>∃Z',Sub Z0 Z'/\(True)/\oq.v=.lit .nilIface/\St Z' (cp B (L++[UInt8.ofNat (Int.toNat c)])::l) oq.hp:=by
 obtain⟨p,v,hp,hv,hs⟩:=qc hs;refine(w4r Γ B c p v L hp hl hc hs).mono ?_;rintro o ⟨Z',z,v2,_,hv2,hs2⟩;exact⟨Z',z,trivial,hv2,uw (λe=>by simp at e) hs2⟩
theorem St.put0{b:Nat}{o:AObj}(s:St Z0 (own b o::l) h):St Z0 l ⟨h.objs.put b none,h.next⟩:=by
 have sk:∀x,x≠b->(h.objs.put b none).get x=h.objs.get x:=λx hx=>by rw[T.get_put,bh hx]
 obtain⟨D,h1,⟨h2,h3⟩,h4⟩:=s.sep;have hz:Z0.objs.get b=none:=Classical.not_not.1 (h1 b ((h2 b).2 rfl)).1;exact⟨λx p he=>(sk x (λhh=>by rw[hh,hz]at he;cases he)).trans (s.frz x p he),s.zlt,db (λx hx=>.inl hx) (gZ (h:=h) (av _) (λx _ hx=>sk x λhh=>hx (.inr ((h2 x).2 hh))) h4)⟩
theorem CF:∀L:bn,Et (L.map byE).flatten=some L
 |[]=>rfl
 |b::L=>by
  have hb:Nat.blt b.toNat 256=true:=by simpa[Nat.blt_eq]using UInt8.toNat_lt b
  show(bif Nat.blt b.toNat 256 then(Et (L.map byE).flatten).map λl=>UInt8.ofNat b.toNat::l else none)=_;rw[hb,bf,CF L,UInt8.ofNat_toNat];rfl
theorem Ka(hl:(L.length:Int)<=1000000)(hs:St Z0 (cp B L::l) h):Runs Tryz.prog Γ (.call 26 [.ptr B 0] h) λoq=>∃Z',Sub Z0 Z'/\(True)/\oq.v=sV L/\St Z' l oq.hp:=by
 obtain⟨p,v,hp,hv,hs⟩:=qc hs;have hg:=(St.get (l:=[]) hs).1;have hc:=F3 hs.rot1;by_cases h0:L=[]
 .subst h0;rw[hv rfl]at hg;exact w1r (h':=h) (v:=sV []) (show zm [.ptr B 0] h=_ by simp only[zm,hg,Nat.beq_refl,bf];rfl) ⟨Z0,Sub.refl _,trivial,rfl,hs.drop (l:=[_,_])⟩
 .have hlen:Nat.blt 0 L.length=true:=by
   have:=List.length_pos_iff.2 h0
   simpa[Nat.blt_eq]using this
  have hle:Nat.ble L.length 1000000=true:=ai bj;obtain⟨_,⟨e,e2,_⟩|⟨b,o,_,_,⟨cs,h3,_⟩,s2⟩⟩:=dR hs.rot1
  .exact absurd (List.map_eq_nil_iff.1 e2) h0
  .have s3:St Z0 l ⟨h.objs.put b none,h.next⟩:=(St.put0 s2).drop (l:=[_]);have hx:∀n,n=L.length->zv b n (oneS v) h=ig ⟨h.objs.put b none,h.next⟩ (sV L):=λn e=>by
    subst e;simp only[zv,hc,ay,CF,hlen,hle,Nat.beq_refl,aF,bf];rfl
   refine w1r (h':=⟨h.objs.put b none,h.next⟩) (v:=sV L) (show zm [.ptr B 0] h=_ from ?_) ⟨Z0,Sub.refl _,trivial,rfl,s3⟩;rcases h3 with⟨c,e,_⟩|⟨c,e,_⟩
   .rw[e]at hg hx;simp only[zm,hg,Nat.beq_refl,bf];exact hx _ (ao _)
   .rw[e]at hg hx;simp only[zm,hg,Nat.beq_refl,bf];exact hx _ (ao _)
end
theorem PQ:ErrOk (.lit .nilIface):=⟨λxo _=>by cases xo<;>kernel_rfl,λxo _=>by cases xo<;>kernel_rfl⟩
theorem vX(n:Nat):oneS (.iface 315 (.ptr n 0))=.iface 315 (.ptr n 0):=cm rfl (by simp[SV.same])
theorem PX:∃x,tyU Tryz.prog 61=some (.interface x):=⟨_,rfl⟩
theorem Hk(n:Nat):ErrOk (.iface 315 (.ptr n 0)):=by
 obtain⟨x,hx⟩:=PX;refine⟨λ_ _=>?_,λ_ _=>?_⟩
 .rw[vX];simp only[binQ,SV.toLit,eZ,hx];rfl
 .rw[vX];simp only[binQ,SV.toLit,eZ,hx];rfl
theorem Dn{Γ:Glob}(s:bn)(hl:(s.length:Int)<=1000000){Z0 h:Hp}{l:List Asrt}(hs:St Z0 l h):Runs Tryz.prog Γ (.call 159 [sV s] h) λoq=>∃Z',Sub Z0 Z'/\∃nz:Int,∃er:SV,(TF nz (ErrOk er))/\oq.v=.tuple [iV nz,(oneS er)]/\St Z' l oq.hp:=by
 have hb:Nat.ble s.length 1000000=true:=leS hl;have hk:St Z0 l ⟨h.objs,h.next+1⟩:=hs.kept ⟨Nat.le_succ _,λ_ _=>rfl⟩;cases e:Go.Lib.atoiAll s with
 |ok z=>exact w1r (h':=h) (v:=.tuple [iV z,.lit .nilIface]) (show mN [sV s] h=_ by simp only[mN,hb,bf,e];rfl) ⟨Z0,Sub.refl _,z,.lit .nilIface,⟨(Go.Lib.atoiAll_bounds e).1,Int.lt_of_le_of_lt (Go.Lib.atoiAll_bounds e).2 (by decide),PQ⟩,rfl,hs⟩
 |range=>exact w1r (h':=⟨h.objs,h.next+1⟩) (v:=.tuple [iV (Go.Lib.atoiSat s),.iface 315 (.ptr h.next 0)]) (show mN [sV s] h=_ by simp only[mN,hb,bf,e];rfl) ⟨Z0,Sub.refl _,Go.Lib.atoiSat s,.iface 315 (.ptr h.next 0),⟨(Go.Lib.atoiSat_bounds s).1,Int.lt_of_le_of_lt (Go.Lib.atoiSat_bounds s).2 (by decide),Hk h.next⟩,by rw[vX],hk⟩
 |_=>exact w1r (h':=⟨h.objs,h.next+1⟩) (v:=.tuple [iV 0,.iface 315 (.ptr h.next 0)]) (show mN [sV s] h=_ by simp only[mN,hb,bf,e];rfl) ⟨Z0,Sub.refl _,0,.iface 315 (.ptr h.next 0),⟨by decide,by decide,Hk h.next⟩,by rw[vX],hk⟩
theorem w5r(s p:bn)(hl:(s.length:Int)<=1000000)(hs:St Z0 (l) h):RC Γ Z0 11 [sV s,sV p] h λZq vq hq=>(True)/\vq=.tuple [sV ((Go.Lib.cut s p).1),sV ((Go.Lib.cut s p).2.1),bV ((Go.Lib.cut s p).2.2)]/\St Zq (l) hq:=by
 exact w1r (show mM Ib _ h=_ from rW (Ir hl)) ⟨Z0,Sub.refl _,trivial,rfl,hs⟩
theorem w6r(s p:bn)(hs:St Z0 (l) h):RC Γ Z0 118 [sV s,sV p] h λZq vq hq=>(True)/\vq=bV (Go.Lib.hasPrefix s p)/\St Zq (l) hq:=by
 exact w1r (show mM Lp _ h=_ from rW rfl) ⟨Z0,Sub.refl _,trivial,rfl,hs⟩
theorem w7r(s p:bn)(hs:St Z0 (l) h):RC Γ Z0 61 [sV s,sV p] h λZq vq hq=>(True)/\vq=.tuple [sV (Go.Lib.trimPrefix s p),bV (Go.Lib.hasPrefix s p)]/\St Zq (l) hq:=by
 exact w1r (show mM Fb _ h=_ from rW rfl) ⟨Z0,Sub.refl _,trivial,rfl,hs⟩
theorem w8r(s p:bn)(hs:St Z0 (l) h):RC Γ Z0 51 [sV s,sV p] h λZq vq hq=>(True)/\vq=sV (Go.Lib.trimPrefix s p)/\St Zq (l) hq:=by
 exact w1r (show mM G7 _ h=_ from rW rfl) ⟨Z0,Sub.refl _,trivial,rfl,hs⟩
theorem w9r(s p:bn)(hl:(s.length:Int)<=1000000)(hs:St Z0 (l) h):RC Γ Z0 67 [sV s,sV p] h λZq vq hq=>(True)/\vq=.tuple [sV (Go.Lib.trimSuffix s p),bV (Go.Lib.hasSuffix s p)]/\St Zq (l) hq:=by
 exact w1r (show mM xV _ h=_ from rW (HB hl)) ⟨Z0,Sub.refl _,trivial,rfl,hs⟩
theorem Sc(s:bn)(c:Int)(hl:(s.length:Int)<=1000000)(hs:St Z0 (l) h):RC Γ Z0 219 [sV s,yV c] h λZq vq hq=>∃r:Int,(-1<=r/\r<(s.length:Int))/\vq=iV r/\St Zq (l) hq:=by
 exact w1r (show ixW _ h=_ from LW) ⟨Z0,Sub.refl _,_,zl s,rfl,hs⟩
theorem Qu(s c n:bn)(hl:(s.length:Int)<=100000)(hc:(c.length:Int)=1)(hn:(n.length:Int)<=100)(hs:St Z0 (l) h):RC Γ Z0 52 [sV s,sV c,sV n] h λZq vq hq=>(True)/\vq=sV (Go.Lib.replaceAll s c n)/\St Zq (l) hq:=by
 exact w1r (show tp _ h=_ from Fg hl hc hn) ⟨Z0,Sub.refl _,trivial,rfl,hs⟩
theorem lX(z:Int)(hz: TE z)(hs:St Z0 (l) h):RC Γ Z0 44 [iV z] h λZq vq hq=>(True)/\vq=sV (cj z)/\St Zq (l) hq:=by
 exact w1r (show sU _ h=_ from Gl hz) ⟨Z0,Sub.refl _,trivial,rfl,hs⟩
theorem Ma(s:bn)(hl:(s.length:Int)<=1000000)(hs:St Z0 (l) h):RC Γ Z0 159 [sV s] h λZq vq hq=>∃nz:Int,∃er:SV,(TF nz (ErrOk er))/\vq=.tuple [iV nz,(oneS er)]/\St Zq (l) hq:=by
 exact Dn s hl hs
theorem Ld(B:Nat)(s L:bn)(hl:(L.length:Int)+s.length<=1000000)(hs:St Z0 (cp B L::l) h):RC Γ Z0 15 [.ptr B 0,sV s] h λZq vq hq=>∃n:Int,(True)/\vq=.tuple [iV n,.lit .nilIface]/\St Zq (cp B (L++s)::l) hq:=by
 exact Ln hl hs
theorem Jv(B:Nat)(c:Int)(L:bn)(hl:(L.length:Int)<=1000000)(hc:0<=c/\c<256)(hs:St Z0 (cp B L::l) h):RC Γ Z0 17 [.ptr B 0,yV c] h λZq vq hq=>(True)/\vq=.lit .nilIface/\St Zq (cp B (L++[UInt8.ofNat (Int.toNat c)])::l) hq:=by
 exact Li hl hc hs
theorem M1(B:Nat)(L:bn)(hl:(L.length:Int)<=1000000)(hs:St Z0 (cp B L::l) h):RC Γ Z0 26 [.ptr B 0] h λZq vq hq=>(True)/\vq=sV L/\St Zq (l) hq:=by
 exact Ka hl hs
abbrev zj0:List XV:=[vI 5,vI 6,vI 7,vI 8,vB 1,vB 2]
theorem Kj0{P:Prop}(h:P:=by first|omega|(have w1:=lL a b0 bj;have w2:=lL c d bj;simp only[ac,au,aw];omega)|(have w1:=lL a b0 bj;have w2:=lL c d bj;have w3:=cC 0 bj;have w4:=cC 1 bj;have w5:=cC 2 bj;have w6:=cC 3 bj;simp only[ac,au,aw];omega)|omega|(and_intros<;>intros<;>and_intros<;>first|omega|assumption|exact V1)):P:=h
theorem Kj1{P:Prop}(h:P:=by first|omega|(have w0:=m2 A.nd.a0 A.nd.a1 A.nd.a2 A.nd.a3 A.nd.a4 A.nd.a5 bj;have w1:=m2 A.nd.b0 A.nd.b1 A.nd.b2 A.nd.b3 A.nd.b4 A.nd.b5 bj;have w2:=kB A.nd.name bj;have w3:=cC A.nd.rows bj;have w4:=cC (A.kids.length:Int) bj;simp only[ac,au,aw];omega)|omega|(and_intros<;>intros<;>and_intros<;>first|omega|assumption|exact V1)):P:=h
theorem Kj3{P:Prop}(h:P:=by first|omega|(have w1:=cC m bj;have w2:=cC e bj;have w3:=cC f bj;have w4:=kB s bj;simp only[ac,au,aw];omega)|omega|(and_intros<;>intros<;>and_intros<;>first|omega|assumption|exact V1)):P:=h
theorem Kj5{P:Prop}(h:P:=by first|omega|(have w1:=cC (s.length:Int) bj;simp only[ac,au,aw];omega)|omega|(and_intros<;>intros<;>and_intros<;>first|omega|assumption|exact V1)):P:=h
theorem cC(z:Int)(h: TE z):((cj z).length:Int)<=21:=by
 have:=Go.Lib.itoa_length_le z h.1 bj;unfold cj;omega
def idB(a n:Int):bn:=(cj a++[46])++cj n
def ie(a b c d:Int)(e f:Bool):bn:=(((idB a b++[44])++idB c d)++[44])++cj ((if e then 1 else 0)+(if f then 2 else 0))
def sizedB(s:bn):bn:=(cj (s.length:Int)++[58])++s
def lj(k m e:Int)(s:bn)(b:Bool)(f:Int):bn:=
 if k=1 then(([78]++cj m)++[101])++cj e
 else if k=2 then[83]++sizedB s
 else if k=3 then(if b then[84]else[70])
 else[69]++cj f
def dK(x:ND)(n:Int):bn:=
 if x.k=0 then lj x.v0 x.v1 x.v2 x.v3 x.v4 x.v5
 else if x.k=1 then[79]++ie x.a0 x.a1 x.a2 x.a3 x.a4 x.a5
 else if x.k=3 then[80]++ie x.a0 x.a1 x.a2 x.a3 x.a4 x.a5
 else if x.k=2 then(([82]++ie x.a0 x.a1 x.a2 x.a3 x.a4 x.a5)++[58])++ie x.b0 x.b1 x.b2 x.b3 x.b4 x.b5
 else if x.k=4 then(([67]++sizedB x.name)++[44])++cj n
 else if x.k=5 then[85]++x.name
 else if x.k=6 then[66]++x.name
 else if x.k=7 then[77]++sizedB x.name
 else if x.k=8 then(([65]++cj x.rows)++[44])++cj n
 else[88]
def okND(x:ND):Prop:= TF x.v1 (TF x.v2 (TF x.v5 (TF x.a0 (TF x.a1 (TF x.a2 (TF x.a3 (TF x.b0 (TF x.b1 (TF x.b2 (TF x.b3 (TF x.rows ((x.v3.length:Int)<=3100/\(x.name.length:Int)<=3100))))))))))))
theorem lL(a n:Int)(h: TF a (TE n)):((idB a n).length:Int)<=43:=by
 have h1:=cC a bj;have h2:=cC n bj;simp only[idB,ac,au,aw];omega
theorem m2(a b c d:Int)(e f:Bool)(h: TF a (TF b (TF c (TE d)))):((ie a b c d e f).length:Int)<=109:=by
 have h1:=lL a b bj;have h2:=lL c d bj;have h3:=cC ((if e then 1 else 0)+(if f then 2 else 0)) (by cases e<;>cases f<;>decide);simp only[ie,ac,au,aw];omega
theorem kB(s:bn)(h:(s.length:Int)<=3100):((sizedB s).length:Int)<=3122:=by
 have h1:=cC (s.length:Int) bj;simp only[sizedB,ac,au,aw];omega
theorem Ex(k m e:Int)(s:bn)(b:Bool)(f:Int)(h: TF m (TF e (TE f)))(hs:(s.length:Int)<=3100):((lj k m e s b f).length:Int)<=3123:=by
 have h1:=cC m bj;have h2:=cC e bj;have h3:=cC f bj;have h4:=kB s hs;unfold lj
 repeat' split
 all_goals try simp only[ac,au,aw]
 all_goals omega
theorem mJ(x:ND)(n:Int)(h:okND x)(hn: TE n):((dK x n).length:Int)<=3200:=by
 unfold okND at h;have h1:=Ex x.v0 x.v1 x.v2 x.v3 x.v4 x.v5 bj bj;have h2:=m2 x.a0 x.a1 x.a2 x.a3 x.a4 x.a5 bj;have h3:=m2 x.b0 x.b1 x.b2 x.b3 x.b4 x.b5 bj;have h4:=kB x.name bj;have h5:=cC n hn;have h6:=cC x.rows bj;unfold dK
 repeat' split
 all_goals try simp only[ac,au,aw]
 all_goals omega
abbrev RP(Γ:Glob)(a n:Int):TG:=λl Zq vq hq=>(True)/\vq=sV (idB a n)/\St Zq (l) hq
theorem yc(a n:Int)(hi: TF a (TE n))(hs:St Z0 (l) h):RC Γ Z0 148 [.agg [iV a,iV n]] h (RP Γ a n l):=by
 refine bL Tryz.f148 Tryz.func148 [.agg [vI 0,vI 1]] [] ⟨2,0,0,0,0,0⟩ (va {i:=[a,n]}) (.new<|.call 44 [vI 0] [] (vT 0) [] ⟨2,1,0,0,1,0⟩<|.vc (.le (.add (.len (.tv 0)) (.len (.tl [46]))) (.z 9223372036854775807))<|.call 44 [vI 1] [] (vT 1) [] ⟨2,2,0,0,1,0⟩<|.vc (.le (.add (.len (.cat (.tv 0) (.tl [46]))) (.len (.tv 1))) (.z 9223372036854775807))<|.ret (.txt (.cat (.cat (.tv 0) (.tl [46])) (.tv 1))) []) hs ?_;refine bA λbk0=>?_;refine dcU {t:=[(cj a)]} (λ_ _=>lX Γ a TR) λZ=>?_;refine bE (show(((cj a).length:Int)+(([46]:bn).length:Int))<=9223372036854775807 from TR) ?_;refine dcU {t:=[(cj n)]} (λ_ _=>lX Γ n TR) λZ=>?_;refine bE (show((((cj a)++([46]:bn)).length:Int)+((cj n).length:Int))<=9223372036854775807 from TR) ?_;exact an λh hs=>⟨TH,rfl,hs⟩
abbrev S7(Γ:Glob)(a b0:Int)(c d:Int)(e f:Bool):TG:=λl Zq vq hq=>(True)/\vq=sV (ie a b0 c d e f)/\St Zq (l) hq
theorem IL(a b0:Int)(c d:Int)(e f:Bool)(hi: TF a (TF b0 (TF c (TE d))))(hs:St Z0 (l) h):RC Γ Z0 97 [.agg [iV a,iV b0,iV c,iV d,bV e,bV f]] h (S7 Γ a b0 c d e f l):=by
 refine bL Tryz.f97 Tryz.func97 [.agg [vI 0,vI 1,vI 2,vI 3,vB 0,vB 1]] [] ⟨4,0,2,0,0,0⟩ (va {i:=[a,b0,c,d],b:=[e,f]}) (.new<|.fork (.bv 0) (.fork (.bv 1) (.call 148 [.agg [vI 0,vI 1]] [] (vT 0) [] ⟨4,1,2,0,1,0⟩<|.vc (.le (.add (.len (.tv 0)) (.len (.tl [44]))) (.z 9223372036854775807))<|.call 148 [.agg [vI 2,vI 3]] [] (vT 1) [] ⟨4,2,2,0,1,0⟩<|.vc (.le (.add (.len (.cat (.tv 0) (.tl [44]))) (.len (.tv 1))) (.z 9223372036854775807))<|.vc (.le (.add (.len (.cat (.cat (.tv 0) (.tl [44])) (.tv 1))) (.len (.tl [44]))) (.z 9223372036854775807))<|.call 44 [I (.z 3)] [] (vT 2) [] ⟨4,3,2,0,1,0⟩<|.vc (.le (.add (.len (.cat (.cat (.cat (.tv 0) (.tl [44])) (.tv 1)) (.tl [44]))) (.len (.tv 2))) (.z 9223372036854775807))<|.ret (.txt (.cat (.cat (.cat (.cat (.tv 0) (.tl [44])) (.tv 1)) (.tl [44])) (.tv 2))) [])<|.call 148 [.agg [vI 0,vI 1]] [] (vT 0) [] ⟨4,1,2,0,1,0⟩<|.vc (.le (.add (.len (.tv 0)) (.len (.tl [44]))) (.z 9223372036854775807))<|.call 148 [.agg [vI 2,vI 3]] [] (vT 1) [] ⟨4,2,2,0,1,0⟩<|.vc (.le (.add (.len (.cat (.tv 0) (.tl [44]))) (.len (.tv 1))) (.z 9223372036854775807))<|.vc (.le (.add (.len (.cat (.cat (.tv 0) (.tl [44])) (.tv 1))) (.len (.tl [44]))) (.z 9223372036854775807))<|.call 44 [I (.z 1)] [] (vT 2) [] ⟨4,3,2,0,1,0⟩<|.vc (.le (.add (.len (.cat (.cat (.cat (.tv 0) (.tl [44])) (.tv 1)) (.tl [44]))) (.len (.tv 2))) (.z 9223372036854775807))<|.ret (.txt (.cat (.cat (.cat (.cat (.tv 0) (.tl [44])) (.tv 1)) (.tl [44])) (.tv 2))) [])<|.fork (.bv 1) (.call 148 [.agg [vI 0,vI 1]] [] (vT 0) [] ⟨4,1,2,0,1,0⟩<|.vc (.le (.add (.len (.tv 0)) (.len (.tl [44]))) (.z 9223372036854775807))<|.call 148 [.agg [vI 2,vI 3]] [] (vT 1) [] ⟨4,2,2,0,1,0⟩<|.vc (.le (.add (.len (.cat (.tv 0) (.tl [44]))) (.len (.tv 1))) (.z 9223372036854775807))<|.vc (.le (.add (.len (.cat (.cat (.tv 0) (.tl [44])) (.tv 1))) (.len (.tl [44]))) (.z 9223372036854775807))<|.call 44 [I (.z 2)] [] (vT 2) [] ⟨4,3,2,0,1,0⟩<|.vc (.le (.add (.len (.cat (.cat (.cat (.tv 0) (.tl [44])) (.tv 1)) (.tl [44]))) (.len (.tv 2))) (.z 9223372036854775807))<|.ret (.txt (.cat (.cat (.cat (.cat (.tv 0) (.tl [44])) (.tv 1)) (.tl [44])) (.tv 2))) [])<|.call 148 [.agg [vI 0,vI 1]] [] (vT 0) [] ⟨4,1,2,0,1,0⟩<|.vc (.le (.add (.len (.tv 0)) (.len (.tl [44]))) (.z 9223372036854775807))<|.call 148 [.agg [vI 2,vI 3]] [] (vT 1) [] ⟨4,2,2,0,1,0⟩<|.vc (.le (.add (.len (.cat (.tv 0) (.tl [44]))) (.len (.tv 1))) (.z 9223372036854775807))<|.vc (.le (.add (.len (.cat (.cat (.tv 0) (.tl [44])) (.tv 1))) (.len (.tl [44]))) (.z 9223372036854775807))<|.call 44 [Fd] [] (vT 2) [] ⟨4,3,2,0,1,0⟩<|.vc (.le (.add (.len (.cat (.cat (.cat (.tv 0) (.tl [44])) (.tv 1)) (.tl [44]))) (.len (.tv 2))) (.z 9223372036854775807))<|.ret (.txt (.cat (.cat (.cat (.cat (.tv 0) (.tl [44])) (.tv 1)) (.tl [44])) (.tv 2))) []) hs ?_;refine bA λbk0=>?_;refine bo (e=true) rfl (λcd1=>?_) λcd1=>?_
 .refine bo (f=true) rfl (λcd2=>?_) λcd2=>?_
  .refine dcU {t:=[(idB a b0)]} (λ_ _=>yc Γ a b0 Kj0) λZ=>?_;refine bE (show(((idB a b0).length:Int)+(([44]:bn).length:Int))<=9223372036854775807 from Kj0) ?_;refine dcU {t:=[(idB c d)]} (λ_ _=>yc Γ c d Kj0) λZ=>?_;refine bE (show((((idB a b0)++([44]:bn)).length:Int)+((idB c d).length:Int))<=9223372036854775807 from Kj0) ?_;refine bE (show(((((idB a b0)++([44]:bn))++(idB c d)).length:Int)+(([44]:bn).length:Int))<=9223372036854775807 from Kj0) ?_;refine dcU {t:=[(cj 3)]} (λ_ _=>lX Γ 3 Kj0) λZ=>?_;refine bE (show((((((idB a b0)++([44]:bn))++(idB c d))++([44]:bn)).length:Int)+((cj 3).length:Int))<=9223372036854775807 from Kj0) ?_;exact an λh hs=>⟨TH,by first|rfl|(show(sV (((((idB a b0)++([44]:bn))++(idB c d))++([44]:bn))++(cj 3)):SV)=_;clear hs;simp[ie, *]),hs⟩
  .refine dcU {t:=[(idB a b0)]} (λ_ _=>yc Γ a b0 Kj0) λZ=>?_;refine bE (show(((idB a b0).length:Int)+(([44]:bn).length:Int))<=9223372036854775807 from Kj0) ?_;refine dcU {t:=[(idB c d)]} (λ_ _=>yc Γ c d Kj0) λZ=>?_;refine bE (show((((idB a b0)++([44]:bn)).length:Int)+((idB c d).length:Int))<=9223372036854775807 from Kj0) ?_;refine bE (show(((((idB a b0)++([44]:bn))++(idB c d)).length:Int)+(([44]:bn).length:Int))<=9223372036854775807 from Kj0) ?_;refine dcU {t:=[(cj 1)]} (λ_ _=>lX Γ 1 Kj0) λZ=>?_;refine bE (show((((((idB a b0)++([44]:bn))++(idB c d))++([44]:bn)).length:Int)+((cj 1).length:Int))<=9223372036854775807 from Kj0) ?_;exact an λh hs=>⟨TH,by first|rfl|(show(sV (((((idB a b0)++([44]:bn))++(idB c d))++([44]:bn))++(cj 1)):SV)=_;clear hs;simp[ie, *]),hs⟩
 .refine bo (f=true) rfl (λcd2=>?_) λcd2=>?_
  .refine dcU {t:=[(idB a b0)]} (λ_ _=>yc Γ a b0 Kj0) λZ=>?_;refine bE (show(((idB a b0).length:Int)+(([44]:bn).length:Int))<=9223372036854775807 from Kj0) ?_;refine dcU {t:=[(idB c d)]} (λ_ _=>yc Γ c d Kj0) λZ=>?_;refine bE (show((((idB a b0)++([44]:bn)).length:Int)+((idB c d).length:Int))<=9223372036854775807 from Kj0) ?_;refine bE (show(((((idB a b0)++([44]:bn))++(idB c d)).length:Int)+(([44]:bn).length:Int))<=9223372036854775807 from Kj0) ?_;refine dcU {t:=[(cj 2)]} (λ_ _=>lX Γ 2 Kj0) λZ=>?_;refine bE (show((((((idB a b0)++([44]:bn))++(idB c d))++([44]:bn)).length:Int)+((cj 2).length:Int))<=9223372036854775807 from Kj0) ?_;exact an λh hs=>⟨TH,by first|rfl|(show(sV (((((idB a b0)++([44]:bn))++(idB c d))++([44]:bn))++(cj 2)):SV)=_;clear hs;simp[ie, *]),hs⟩
  .refine dcU {t:=[(idB a b0)]} (λ_ _=>yc Γ a b0 Kj0) λZ=>?_;refine bE (show(((idB a b0).length:Int)+(([44]:bn).length:Int))<=9223372036854775807 from Kj0) ?_;refine dcU {t:=[(idB c d)]} (λ_ _=>yc Γ c d Kj0) λZ=>?_;refine bE (show((((idB a b0)++([44]:bn)).length:Int)+((idB c d).length:Int))<=9223372036854775807 from Kj0) ?_;refine bE (show(((((idB a b0)++([44]:bn))++(idB c d)).length:Int)+(([44]:bn).length:Int))<=9223372036854775807 from Kj0) ?_;refine dcU {t:=[(cj 0)]} (λ_ _=>lX Γ 0 Kj0) λZ=>?_;refine bE (show((((((idB a b0)++([44]:bn))++(idB c d))++([44]:bn)).length:Int)+((cj 0).length:Int))<=9223372036854775807 from Kj0) ?_;exact an λh hs=>⟨TH,by first|rfl|(show(sV (((((idB a b0)++([44]:bn))++(idB c d))++([44]:bn))++(cj 0)):SV)=_;clear hs;simp[ie, *]),hs⟩
abbrev Rr(Γ:Glob)(s:bn):TG:=λl Zq vq hq=>(True)/\vq=sV (sizedB s)/\St Zq (l) hq
theorem Lb(s:bn)(hi:(s.length:Int)<=3100)(hs:St Z0 (l) h):RC Γ Z0 98 [sV s] h (Rr Γ s l):=by
 refine bL Tryz.f98 Tryz.func98 [vT 0] [] ⟨0,1,0,0,0,0⟩ (va {t:=[s]}) (.call 44 [I (.len (.tv 0))] [] (vT 1) [] ⟨0,2,0,0,0,0⟩<|.vc (.le (.add (.len (.tv 1)) (.len (.tl [58]))) (.z 9223372036854775807))<|.vc (.le (.add (.len (.cat (.tv 1) (.tl [58]))) (.len (.tv 0))) (.z 9223372036854775807))<|.ret (.txt (.cat (.cat (.tv 1) (.tl [58])) (.tv 0))) []) hs ?_;refine dcU {t:=[(cj (s.length:Int))]} (λ_ _=>lX Γ (s.length:Int) Kj5) λZ=>?_;refine bE (show(((cj (s.length:Int)).length:Int)+(([58]:bn).length:Int))<=9223372036854775807 from Kj5) ?_;refine bE (show((((cj (s.length:Int))++([58]:bn)).length:Int)+(s.length:Int))<=9223372036854775807 from Kj5) ?_;exact an λh hs=>⟨TH,rfl,hs⟩
abbrev SD(Γ:Glob)(k m e:Int)(s:bn)(b0:Bool)(f:Int):TG:=λl Zq vq hq=>(True)/\vq=sV (lj k m e s b0 f)/\St Zq (l) hq
theorem Ru(k m e:Int)(s:bn)(b0:Bool)(f:Int)(hi: TF m (TF e (TF f ((s.length:Int)<=3100))))(hs:St Z0 (l) h):RC Γ Z0 96 [.agg [iV k,iV m,iV e,sV s,bV b0,iV f]] h (SD Γ k m e s b0 f l):=by
 refine bL Tryz.f96 Tryz.func96 [.agg [vI 0,vI 1,vI 2,vT 0,vB 0,vI 3]] [] ⟨4,1,1,0,0,0⟩ (va {i:=[k,m,e,f],t:=[s],b:=[b0]}) (.new<|.fork (.eq (.v 0) (.z 1)) (.call 44 [vI 1] [] (vT 1) [] ⟨4,2,1,0,1,0⟩<|.vc (.le (.add (.len (.tl [78])) (.len (.tv 1))) (.z 9223372036854775807))<|.vc (.le (.add (.len (.cat (.tl [78]) (.tv 1))) (.len (.tl [101]))) (.z 9223372036854775807))<|.call 44 [vI 2] [] (vT 2) [] ⟨4,3,1,0,1,0⟩<|.vc (.le (.add (.len (.cat (.cat (.tl [78]) (.tv 1)) (.tl [101]))) (.len (.tv 2))) (.z 9223372036854775807))<|.ret (.txt (.cat (.cat (.cat (.tl [78]) (.tv 1)) (.tl [101])) (.tv 2))) [])<|.fork (.eq (.v 0) (.z 2)) (.call 98 [vT 0] [] (vT 1) [] ⟨4,2,1,0,1,0⟩<|.vc (.le (.add (.len (.tl [83])) (.len (.tv 1))) (.z 9223372036854775807))<|.ret (.txt (.cat (.tl [83]) (.tv 1))) [])<|.fork (.eq (.v 0) (.z 3)) (.fork (.bv 0) (.ret (.txt (.tl [84])) [])<|.ret (.txt (.tl [70])) [])<|.call 44 [vI 3] [] (vT 1) [] ⟨4,2,1,0,1,0⟩<|.vc (.le (.add (.len (.tl [69])) (.len (.tv 1))) (.z 9223372036854775807))<|.ret (.txt (.cat (.tl [69]) (.tv 1))) []) hs ?_;refine bA λbk0=>?_;refine bo (k=1) rfl (λcd1=>?_) λcd1=>?_
 .refine dcU {t:=[(cj m)]} (λ_ _=>lX Γ m Kj3) λZ=>?_;refine bE (show((([78]:bn).length:Int)+((cj m).length:Int))<=9223372036854775807 from Kj3) ?_;refine bE (show(((([78]:bn)++(cj m)).length:Int)+(([101]:bn).length:Int))<=9223372036854775807 from Kj3) ?_;refine dcU {t:=[(cj e)]} (λ_ _=>lX Γ e Kj3) λZ=>?_;refine bE (show((((([78]:bn)++(cj m))++([101]:bn)).length:Int)+((cj e).length:Int))<=9223372036854775807 from Kj3) ?_;exact an λh hs=>⟨TH,by first|rfl|(show(sV (((([78]:bn)++(cj m))++([101]:bn))++(cj e)):SV)=_;clear hs;simp[lj, *]),hs⟩
 .refine bo (k=2) rfl (λcd2=>?_) λcd2=>?_
  .refine dcU {t:=[(sizedB s)]} (λ_ _=>Lb Γ s Kj3) λZ=>?_;refine bE (show((([83]:bn).length:Int)+((sizedB s).length:Int))<=9223372036854775807 from Kj3) ?_;exact an λh hs=>⟨TH,by first|rfl|(show(sV (([83]:bn)++(sizedB s)):SV)=_;clear hs;simp[lj, *]),hs⟩
  .refine bo (k=3) rfl (λcd3=>?_) λcd3=>?_
   .refine bo (b0=true) rfl (λcd4=>?_) λcd4=>?_
    .exact an λh hs=>⟨TH,by first|rfl|(show(sV ([84]:bn):SV)=_;clear hs;simp[lj, *]),hs⟩
    .exact an λh hs=>⟨TH,by first|rfl|(show(sV ([70]:bn):SV)=_;clear hs;simp[lj, *]),hs⟩
   .refine dcU {t:=[(cj f)]} (λ_ _=>lX Γ f Kj3) λZ=>?_;refine bE (show((([69]:bn).length:Int)+((cj f).length:Int))<=9223372036854775807 from Kj3) ?_;exact an λh hs=>⟨TH,by first|rfl|(show(sV (([69]:bn)++(cj f)):SV)=_;clear hs;simp[lj, *]),hs⟩
abbrev RX(Γ:Glob)(A:AT):TG:=λl Zq vq hq=>(True)/\vq=sV (dK A.nd (A.kids.length:Int))/\St Zq (atA Γ A::l) hq
theorem To(A:AT)(hi: TF A.nd.v1 (TF A.nd.v2 (TF A.nd.v5 (TF A.nd.a0 (TF A.nd.a1 (TF A.nd.a2 (TF A.nd.a3 (TF A.nd.b0 (TF A.nd.b1 (TF A.nd.b2 (TF A.nd.b3 (TF A.nd.rows ((A.nd.v3.length:Int)<=3100/\(A.nd.name.length:Int)<=3100)))))))))))))(hl:(A.kids.length:Int)<=1900000)(hs:St Z0 (atA Γ A::l) h):RC Γ Z0 59 [(oneS A.p)] h (RX Γ A l):=by
 refine bL Tryz.f59 Tryz.func59 [.raw 0] [.asr 0] ⟨0,0,0,1,0,1⟩ (va {r:=[A.p],a:=[atA Γ A]}) (.swap [.asr 0] [.asr 1] ⟨0,0,0,1,0,2⟩<|.win 0 (nX 0 0 0 (.raw 1)) ⟨14,2,5,2,0,2⟩<|.swap [] [.asr 2] ⟨14,2,5,2,0,3⟩<|.fork (.eq (.v 0) (.z 0)) (.call 96 [.agg [vI 1,vI 2,vI 3,vT 0,vB 0,vI 4]] [] (vT 2) [] ⟨14,3,5,2,0,3⟩<|.ret (vT 2) [.asr 1])<|.fork (.eq (.v 0) (.z 1)) (.call 97 [.agg zj0] [] (vT 2) [] ⟨14,3,5,2,0,3⟩<|.vc (.le (.add (.len (.tl [79])) (.len (.tv 2))) (.z 9223372036854775807))<|.ret (.txt (.cat (.tl [79]) (.tv 2))) [.asr 1])<|.fork (.eq (.v 0) (.z 3)) (.call 97 [.agg zj0] [] (vT 2) [] ⟨14,3,5,2,0,3⟩<|.vc (.le (.add (.len (.tl [80])) (.len (.tv 2))) (.z 9223372036854775807))<|.ret (.txt (.cat (.tl [80]) (.tv 2))) [.asr 1])<|.fork (.eq (.v 0) (.z 2)) (.call 97 [.agg zj0] [] (vT 2) [] ⟨14,3,5,2,0,3⟩<|.vc (.le (.add (.len (.tl [82])) (.len (.tv 2))) (.z 9223372036854775807))<|.vc (.le (.add (.len (.cat (.tl [82]) (.tv 2))) (.len (.tl [58]))) (.z 9223372036854775807))<|.call 97 [.agg [vI 9,vI 10,vI 11,vI 12,vB 3,vB 4]] [] (vT 3) [] ⟨14,4,5,2,0,3⟩<|.vc (.le (.add (.len (.cat (.cat (.tl [82]) (.tv 2)) (.tl [58]))) (.len (.tv 3))) (.z 9223372036854775807))<|.ret (.txt (.cat (.cat (.cat (.tl [82]) (.tv 2)) (.tl [58])) (.tv 3))) [.asr 1])<|.fork (.eq (.v 0) (.z 4)) (.row (.len 83 (.raw 1)) [.asr 2] (vI 14) ⟨15,2,5,2,0,3⟩<|.call 98 [vT 1] [] (vT 2) [] ⟨15,3,5,2,0,3⟩<|.vc (.le (.add (.len (.tl [67])) (.len (.tv 2))) (.z 9223372036854775807))<|.vc (.le (.add (.len (.cat (.tl [67]) (.tv 2))) (.len (.tl [44]))) (.z 9223372036854775807))<|.call 44 [vI 14] [] (vT 3) [] ⟨15,4,5,2,0,3⟩<|.vc (.le (.add (.len (.cat (.cat (.tl [67]) (.tv 2)) (.tl [44]))) (.len (.tv 3))) (.z 9223372036854775807))<|.ret (.txt (.cat (.cat (.cat (.tl [67]) (.tv 2)) (.tl [44])) (.tv 3))) [.asr 1])<|.fork (.eq (.v 0) (.z 5)) (.vc (.le (.add (.len (.tl [85])) (.len (.tv 1))) (.z 9223372036854775807))<|.ret (.txt (.cat (.tl [85]) (.tv 1))) [.asr 1])<|.fork (.eq (.v 0) (.z 6)) (.vc (.le (.add (.len (.tl [66])) (.len (.tv 1))) (.z 9223372036854775807))<|.ret (.txt (.cat (.tl [66]) (.tv 1))) [.asr 1])<|.fork (.eq (.v 0) (.z 7)) (.call 98 [vT 1] [] (vT 2) [] ⟨14,3,5,2,0,3⟩<|.vc (.le (.add (.len (.tl [77])) (.len (.tv 2))) (.z 9223372036854775807))<|.ret (.txt (.cat (.tl [77]) (.tv 2))) [.asr 1])<|.fork (.eq (.v 0) (.z 8)) (.row (.len 83 (.raw 1)) [.asr 2] (vI 14) ⟨15,2,5,2,0,3⟩<|.call 44 [vI 13] [] (vT 2) [] ⟨15,3,5,2,0,3⟩<|.vc (.le (.add (.len (.tl [65])) (.len (.tv 2))) (.z 9223372036854775807))<|.vc (.le (.add (.len (.cat (.tl [65]) (.tv 2))) (.len (.tl [44]))) (.z 9223372036854775807))<|.call 44 [vI 14] [] (vT 3) [] ⟨15,4,5,2,0,3⟩<|.vc (.le (.add (.len (.cat (.cat (.tl [65]) (.tv 2)) (.tl [44]))) (.len (.tv 3))) (.z 9223372036854775807))<|.ret (.txt (.cat (.cat (.cat (.tl [65]) (.tv 2)) (.tl [44])) (.tv 3))) [.asr 1])<|.ret (.txt (.tl [88])) [.asr 1]) hs ?_;refine bQ (α:=Unit) (λ(_:Unit)=>{a:=[atA Γ A]}) (λ(_:Unit)=>AtAt Γ Z0 A) (λl h hs=>⟨(),Cw (hs) (m:=l) (h:=h)⟩) λ_ qs1=>?_;obtain⟨L0,wu0,ku0⟩:=EJ qs1;refine fk (TD A.nd L0) wu0 ?_;refine dsU {a:=[Ai Γ (oneS L0) A.kids]} (λl h hs=>BQ ku0 (hs) (m:=l) (h:=h)) ?_;refine bo (A.nd.k=0) rfl (λcd1=>?_) λcd1=>?_
 .refine dcU {t:=[(lj A.nd.v0 A.nd.v1 A.nd.v2 A.nd.v3 A.nd.v4 A.nd.v5)]} (λ_ _=>Ru Γ A.nd.v0 A.nd.v1 A.nd.v2 A.nd.v3 A.nd.v4 A.nd.v5 Kj1) λZ=>?_;exact an λh hs=>⟨TH,by first|rfl|(show(sV (lj A.nd.v0 A.nd.v1 A.nd.v2 A.nd.v3 A.nd.v4 A.nd.v5):SV)=_;clear hs;simp[dK, *]),hs⟩
 .refine bo (A.nd.k=1) rfl (λcd2=>?_) λcd2=>?_
  .refine dcU {t:=[(ie A.nd.a0 A.nd.a1 A.nd.a2 A.nd.a3 A.nd.a4 A.nd.a5)]} (λ_ _=>IL Γ A.nd.a0 A.nd.a1 A.nd.a2 A.nd.a3 A.nd.a4 A.nd.a5 Kj1) λZ=>?_;refine bE (show((([79]:bn).length:Int)+((ie A.nd.a0 A.nd.a1 A.nd.a2 A.nd.a3 A.nd.a4 A.nd.a5).length:Int))<=9223372036854775807 from Kj1) ?_;exact an λh hs=>⟨TH,by first|rfl|(show(sV (([79]:bn)++(ie A.nd.a0 A.nd.a1 A.nd.a2 A.nd.a3 A.nd.a4 A.nd.a5)):SV)=_;clear hs;simp[dK, *]),hs⟩
  .refine bo (A.nd.k=3) rfl (λcd3=>?_) λcd3=>?_
   .refine dcU {t:=[(ie A.nd.a0 A.nd.a1 A.nd.a2 A.nd.a3 A.nd.a4 A.nd.a5)]} (λ_ _=>IL Γ A.nd.a0 A.nd.a1 A.nd.a2 A.nd.a3 A.nd.a4 A.nd.a5 Kj1) λZ=>?_;refine bE (show((([80]:bn).length:Int)+((ie A.nd.a0 A.nd.a1 A.nd.a2 A.nd.a3 A.nd.a4 A.nd.a5).length:Int))<=9223372036854775807 from Kj1) ?_;exact an λh hs=>⟨TH,by first|rfl|(show(sV (([80]:bn)++(ie A.nd.a0 A.nd.a1 A.nd.a2 A.nd.a3 A.nd.a4 A.nd.a5)):SV)=_;clear hs;simp[dK, *]),hs⟩
   .refine bo (A.nd.k=2) rfl (λcd4=>?_) λcd4=>?_
    .refine dcU {t:=[(ie A.nd.a0 A.nd.a1 A.nd.a2 A.nd.a3 A.nd.a4 A.nd.a5)]} (λ_ _=>IL Γ A.nd.a0 A.nd.a1 A.nd.a2 A.nd.a3 A.nd.a4 A.nd.a5 Kj1) λZ=>?_;refine bE (show((([82]:bn).length:Int)+((ie A.nd.a0 A.nd.a1 A.nd.a2 A.nd.a3 A.nd.a4 A.nd.a5).length:Int))<=9223372036854775807 from Kj1) ?_;refine bE (show(((([82]:bn)++(ie A.nd.a0 A.nd.a1 A.nd.a2 A.nd.a3 A.nd.a4 A.nd.a5)).length:Int)+(([58]:bn).length:Int))<=9223372036854775807 from Kj1) ?_;refine dcU {t:=[(ie A.nd.b0 A.nd.b1 A.nd.b2 A.nd.b3 A.nd.b4 A.nd.b5)]} (λ_ _=>IL Γ A.nd.b0 A.nd.b1 A.nd.b2 A.nd.b3 A.nd.b4 A.nd.b5 Kj1) λZ=>?_;refine bE (show((((([82]:bn)++(ie A.nd.a0 A.nd.a1 A.nd.a2 A.nd.a3 A.nd.a4 A.nd.a5))++([58]:bn)).length:Int)+((ie A.nd.b0 A.nd.b1 A.nd.b2 A.nd.b3 A.nd.b4 A.nd.b5).length:Int))<=9223372036854775807 from Kj1) ?_;exact an λh hs=>⟨TH,by first|rfl|(show(sV (((([82]:bn)++(ie A.nd.a0 A.nd.a1 A.nd.a2 A.nd.a3 A.nd.a4 A.nd.a5))++([58]:bn))++(ie A.nd.b0 A.nd.b1 A.nd.b2 A.nd.b3 A.nd.b4 A.nd.b5)):SV)=_;clear hs;simp[dK, *]),hs⟩
    .refine bo (A.nd.k=4) rfl (λcd5=>?_) λcd5=>?_
     .refine drT {i:=[(A.kids.length:Int)]} (λl h hs=>vm (m:=l) (h:=h) hs) ?_;refine dcU {t:=[(sizedB A.nd.name)]} (λ_ _=>Lb Γ A.nd.name Kj1) λZ=>?_;refine bE (show((([67]:bn).length:Int)+((sizedB A.nd.name).length:Int))<=9223372036854775807 from Kj1) ?_;refine bE (show(((([67]:bn)++(sizedB A.nd.name)).length:Int)+(([44]:bn).length:Int))<=9223372036854775807 from Kj1) ?_;refine dcU {t:=[(cj (A.kids.length:Int))]} (λ_ _=>lX Γ (A.kids.length:Int) Kj1) λZ=>?_;refine bE (show((((([67]:bn)++(sizedB A.nd.name))++([44]:bn)).length:Int)+((cj (A.kids.length:Int)).length:Int))<=9223372036854775807 from Kj1) ?_;exact an λh hs=>⟨TH,by first|rfl|(show(sV (((([67]:bn)++(sizedB A.nd.name))++([44]:bn))++(cj (A.kids.length:Int))):SV)=_;clear hs;simp[dK, *]),hs⟩
     .refine bo (A.nd.k=5) rfl (λcd6=>?_) λcd6=>?_
      .refine bE (show((([85]:bn).length:Int)+(A.nd.name.length:Int))<=9223372036854775807 from Kj1) ?_;exact an λh hs=>⟨TH,by first|rfl|(show(sV (([85]:bn)++A.nd.name):SV)=_;clear hs;simp[dK, *]),hs⟩
      .refine bo (A.nd.k=6) rfl (λcd7=>?_) λcd7=>?_
       .refine bE (show((([66]:bn).length:Int)+(A.nd.name.length:Int))<=9223372036854775807 from Kj1) ?_;exact an λh hs=>⟨TH,by first|rfl|(show(sV (([66]:bn)++A.nd.name):SV)=_;clear hs;simp[dK, *]),hs⟩
       .refine bo (A.nd.k=7) rfl (λcd8=>?_) λcd8=>?_
        .refine dcU {t:=[(sizedB A.nd.name)]} (λ_ _=>Lb Γ A.nd.name Kj1) λZ=>?_;refine bE (show((([77]:bn).length:Int)+((sizedB A.nd.name).length:Int))<=9223372036854775807 from Kj1) ?_;exact an λh hs=>⟨TH,by first|rfl|(show(sV (([77]:bn)++(sizedB A.nd.name)):SV)=_;clear hs;simp[dK, *]),hs⟩
        .refine bo (A.nd.k=8) rfl (λcd9=>?_) λcd9=>?_
         .refine drT {i:=[(A.kids.length:Int)]} (λl h hs=>vm (m:=l) (h:=h) hs) ?_;refine dcU {t:=[(cj A.nd.rows)]} (λ_ _=>lX Γ A.nd.rows Kj1) λZ=>?_;refine bE (show((([65]:bn).length:Int)+((cj A.nd.rows).length:Int))<=9223372036854775807 from Kj1) ?_;refine bE (show(((([65]:bn)++(cj A.nd.rows)).length:Int)+(([44]:bn).length:Int))<=9223372036854775807 from Kj1) ?_;refine dcU {t:=[(cj (A.kids.length:Int))]} (λ_ _=>lX Γ (A.kids.length:Int) Kj1) λZ=>?_;refine bE (show((((([65]:bn)++(cj A.nd.rows))++([44]:bn)).length:Int)+((cj (A.kids.length:Int)).length:Int))<=9223372036854775807 from Kj1) ?_;exact an λh hs=>⟨TH,by first|rfl|(show(sV (((([65]:bn)++(cj A.nd.rows))++([44]:bn))++(cj (A.kids.length:Int))):SV)=_;clear hs;simp[dK, *]),hs⟩
         .exact an λh hs=>⟨TH,by first|rfl|(show(sV ([88]:bn):SV)=_;clear hs;simp[dK, *]),hs⟩
abbrev zk1:List (Nat×XV):=[(12,.fn 95 [] [.ptr 2 0]),(5,.ptr 1 0)]
theorem Kk0{P:Prop}(h:P:=by first|omega|exact B0 hi.t hk|exact hi.nd bj|first|omega|(and_intros<;>intros<;>and_intros<;>first|omega|assumption|exact Kg qs3.2 ho bj|exact hi.step bj|exact hi.nd bj|(have w1:=hi.kids bj;omega)|(have w1:=hi.len bj;omega)|(have w1:=hi.len bj;have w2:=hi.clen bj;(try simp only[ac,au,aw]);omega)|exact V1)):P:=h
theorem Kk1{P:Prop}(h:P:=by first|exact hi.res|exact IC qd0 cd1):P:=h
mutual
def codeT:Tr->bn
 | .mk x ks=>(dK x (ks.length:Int)++[59])++nJ ks
def nJ:List Tr->bn
 |[]=>[]
 |t::l=>codeT t++nJ l
end
mutual
def okT:Tr->Prop
 | .mk x ks=>okND x/\okL ks
def okL:List Tr->Prop
 |[]=>True
 |t::l=>okT t/\okL l
end
def codeP(l:List (AT×Int)):bn:=l.flatMap λy=>dK y.1.nd (y.1.kids.length:Int)++[59]
theorem rm(l:List (AT×Int))(y:AT×Int):codeP (l++[y])=(codeP l++dK y.1.nd (y.1.kids.length:Int))++[59]:=by simp[codeP]
theorem Kh(l:List AT):(trL l).length=l.length:=by rw[pY,ao]
mutual
theorem vp:∀(a:AT) (d:Int),codeP (preA a d)=codeT a.tr
 | .mk p x ks,d=>by
   rw[preA];show(dK x (ks.length:Int)++[59])++codeP (preL ks (d+1))=codeT (.mk x (trL ks));rw[codeT,CL ks (d+1),Kh]
theorem CL:∀(l:List AT) (d:Int),codeP (preL l d)=nJ (trL l)
 |[],d=>rfl
 | .mk p x ks::l,d=>by
   have h1:=vp (.mk p x ks) d;have h2:=CL l d;rw[preL];show codeP (preA (.mk p x ks) d++preL l d)=codeT (AT.mk p x ks).tr++nJ (trL l);rw[<-h1,<-h2];simp[codeP]
end
mutual
theorem Lu:∀(a:AT) (d:Int),okT a.tr->∀y∈preA a d,okND y.1.nd
 | .mk p x ks,d,h,y,hy=>by
   have h:okND x/\okL (trL ks):=h;rw[preA]at hy;rcases aD.1 hy with rfl|hy
   .exact h.1
   .exact QL ks (d+1) h.2 y hy
theorem QL:∀(l:List AT) (d:Int),okL (trL l)->∀y∈preL l d,okND y.1.nd
 |[],d,h,y,hy=>by rw[preL]at hy;cases hy
 | .mk p x ks::l,d,h,y,hy=>by
   have h:okT (AT.mk p x ks).tr/\okL (trL l):=h;rw[preL]at hy;rcases List.mem_append.1 hy with hy|hy
   .exact Lu (.mk p x ks) d h.1 y hy
   .exact QL l d h.2 y hy
end
mutual
theorem oe:∀(a:AT) (d:Int),∀y∈preA a d,y.1.kids.length<=(preA a d).length
 | .mk p x ks,d,y,hy=>by
   rw[preA]at hy⊢;rw[au];rcases aD.1 hy with rfl|hy
   .show ks.length<=_;have:=qt (d+1) ks;omega
   .have:=tZ ks (d+1) y hy;omega
theorem tZ:∀(l:List AT) (d:Int),∀y∈preL l d,y.1.kids.length<=(preL l d).length
 |[],d,y,hy=>by rw[preL]at hy;cases hy
 | .mk p x ks::l,d,y,hy=>by
   rw[preL]at hy⊢;rw[ac];rcases List.mem_append.1 hy with hy|hy
   .have:=oe (.mk p x ks) d y hy;omega
   .have:=tZ l d y hy;omega
end
section
variable {a:AT}{t:Tr}{x:ND}{ks:List Tr}
theorem xY(ht:a.tr=t)(ho:okT t)(hf:((preA a 1).length:Int)<=256):∀k:Nat,k<=(preA a 1).length->((codeP (List.take k (preA a 1))).length:Int)<=3201*(k:Int)
 |0,_=>by simp[codeP]
 |k+1,hk=>by
  have ih:=xY ht ho hf k bj;have e:=eh (L:=preA a 1) (i:=(k:Int)) bj bj;rw[show((k:Int)+1).toNat=k+1 by omega,Int.toNat_natCast]at e;have hm:=fz (L:=preA a 1) (i:=(k:Int)) bj bj;have h1:=Lu a 1 (by rw[ht];exact ho) _ hm;have h2:=oe a 1 _ hm;have h3:=mJ _ ((lget (preA a 1) (k:Int)).1.kids.length:Int) h1 bj;rw[e,rm,ac,ac,au,aw];omega
theorem s5{x:ND}{ks:List Tr}(h:checkB (Tr.mk x ks)=0):(sizeL ks:Int)+1<=256:=by
 unfold checkB at h;rw[show(Tr.mk x ks).kids=ks from rfl]at h;split at h
 .omega
 .omega
structure CodeI(a:AT)(x:ND)(ks:List Tr)(k:Nat)(L:bn):Prop where
 t:a.tr=Tr.mk x ks
 l:L=codeP (List.take k (preA a 1))
 o:okT (Tr.mk x ks)
 f:((preA a 1).length:Int)<=256
 c:checkB (Tr.mk x ks)=0
theorem Kg(ht:a.tr=Tr.mk x ks)(ho:okT (Tr.mk x ks))(h:checkB (Tr.mk x ks)=0):CodeI a x ks 0 []:=⟨ht,rfl,ho,by have h1:=lM ht;have h2:=s5 h;rw[show(Tr.mk x ks).kids=ks from rfl]at h1;omega,h⟩
section
variable {k:Nat}{L:bn}
theorem CodeI.step(w:CodeI a x ks k L)(hk:k<(preA a 1).length):CodeI a x ks (k+1) ((L++dK (lget (preA a 1) (k:Int)).1.nd ((lget (preA a 1) (k:Int)).1.kids.length:Int))++[59]):=by
 have e:=eh (L:=preA a 1) (i:=(k:Int)) bj bj;rw[show((k:Int)+1).toNat=k+1 by omega,Int.toNat_natCast]at e;exact⟨w.t,by rw[e,rm,w.l],w.o,w.f,w.c⟩
theorem CodeI.len(w:CodeI a x ks k L)(hk:k<=(preA a 1).length):(L.length:Int)<=3201*(k:Int)/\((preA a 1).length:Int)<=256:=⟨by rw[w.l];exact xY w.t w.o w.f k hk,w.f⟩
theorem CodeI.nd(w:CodeI a x ks k L)(hk:k<(preA a 1).length):okND (lget (preA a 1) (k:Int)).1.nd:=Lu a 1 (by rw[w.t];exact w.o) _ (fz bj bj)
theorem CodeI.kids(w:CodeI a x ks k L)(hk:k<(preA a 1).length):((lget (preA a 1) (k:Int)).1.kids.length:Int)<=256:=by
 have:=oe a 1 _ (fz (L:=preA a 1) (i:=(k:Int)) bj bj);have:=w.f;omega
theorem CodeI.clen(w:CodeI a x ks k L)(hk:k<(preA a 1).length):((dK (lget (preA a 1) (k:Int)).1.nd ((lget (preA a 1) (k:Int)).1.kids.length:Int)).length:Int)<=3200:=mJ _ _ (w.nd hk) (by have:=w.kids hk;omega)
theorem IC{T:Tr}{e:Int}(h:e=checkB T)(h0:¬e=0):e=checkB T/\([]:bn)=(if checkB T=0 then codeT T else[]):=⟨h,by rw[bh (by rw[<-h];exact h0)]⟩
theorem CodeI.res(w:CodeI a x ks (preA a 1).length L):0=checkB (Tr.mk x ks)/\L=(if checkB (Tr.mk x ks)=0 then codeT (Tr.mk x ks)else[]):=⟨w.c.symm,by rw[bi w.c,w.l,List.take_length,vp,w.t]⟩
theorem CodeI.end(w:CodeI a x ks (preA a 1).length L):L=codeT (Tr.mk x ks):=by rw[w.l,List.take_length,vp,w.t]
end
end
abbrev JK(Γ:Glob)(x:ND)(K:SV)(ks:List Tr):TG:=λl Zq vq hq=>∃c:bn,∃e:Int,(e=checkB (Tr.mk x ks)/\c=(if checkB (Tr.mk x ks)=0 then codeT (Tr.mk x ks)else[]))/\vq=.tuple [sV c,iV e]/\St Zq (br Γ (oneS K) ks::l) hq
noncomputable abbrev Lz(Γ:Glob)(x:ND)(K:SV)(ks:List Tr)(Z0:Hp)(l:List Asrt):Cx:=fnC Tryz.prog Γ Tryz.f25 1 [] (d4 Z0::l) (dz Z0 (JK Γ x K ks l))
theorem LB(x:ND)(K:SV)(ks:List Tr)(hk:(sizeL ks:Int)<=1800000)(ho:okT (Tr.mk x ks))(bk0:Nat)(e0:Int)(bk1 C1:Nat)(at2:AT){Z0 Z:Hp}{l:List Asrt}(L:bn)(hi:CodeI at2 x ks 0 L):den (Lz Γ x K ks Z0 l) (.stop [0,1,0,1,1,1] zk1 [.blk 2 [.raw 2] 144,.asr 4,.asr 7,.asr 5,.asr 3]) ⟨15,2,5,3,3,8⟩ (va {i:=[x.k,x.v0,x.v1,x.v2,x.v5,x.a0,x.a1,x.a2,x.a3,x.b0,x.b1,x.b2,x.b3,x.rows,e0],t:=[x.v3,x.name],b:=[x.v4,x.a4,x.a5,x.b4,x.b5],r:=[K,(.ptr bk0 0),at2.p],n:=[bk0,bk1,C1],a:=[br Γ (oneS K) ks,br Γ (oneS K) ks,bB Γ (.ptr bk0 0) (Tr.mk x ks),br Γ (oneS K) ks,atA Γ at2,bB Γ (.ptr bk0 0) (Tr.mk x ks),cp bk1 [],cp bk1 L]}) Z:=by
 haveI:Mute (Lz Γ x K ks Z0 l).Γ:=(inferInstance:Mute Γ)
 refine jJ (β:=Unit) (p:=[0,1,0,1,1,1]) (la:=[own C1 (.cells [(oneS at2.p)] 144),atA Γ at2]) (lb:=[]) rfl bm 12 (.fn 95 [] [.ptr 2 0]) bm rfl (OZ Γ C1 at2 Kk0) [cp bk1 L,bB Γ (.ptr bk0 0) (Tr.mk x ks),br Γ (oneS K) ks] (λ(L:bn)=>[cp bk1 L,bB Γ (.ptr bk0 0) (Tr.mk x ks),br Γ (oneS K) ks]) (λ(k:Nat) (L:bn)=>CodeI at2 x ks k L) .ret rfl (λ_=>[]) (λ_=>False) (λ_ _ s=>s) (λ_ _ _ s=>⟨L,hi,s⟩) ?_ ?_ (λ_ _ h=>h.elim)
 .intro k hk rv L hi Z B l tm hs;refine lp (fr:=zk1) (c:=⟨16,2,5,4,3,9⟩) (ρ:=va {i:=[x.k,x.v0,x.v1,x.v2,x.v5,x.a0,x.a1,x.a2,x.a3,x.b0,x.b1,x.b2,x.b3,x.rows,e0,((lget (preA at2 1) (k:Int)).2)],t:=[x.v3,x.name],b:=[x.v4,x.a4,x.a5,x.b4,x.b5],r:=[K,(.ptr bk0 0),at2.p,((lget (preA at2 1) (k:Int)).1.p)],n:=[bk0,bk1,C1],a:=[br Γ (oneS K) ks,br Γ (oneS K) ks,bB Γ (.ptr bk0 0) (Tr.mk x ks),br Γ (oneS K) ks,atA Γ at2,bB Γ (.ptr bk0 0) (Tr.mk x ks),cp bk1 [],cp bk1 L,atA Γ (lget (preA at2 1) (k:Int)).1]}) [.raw 3,vI 15] (mem:=[.asr 8,.asr 7,.asr 5,.asr 3]) (win:=[]) (N:=100000) (ta:=.fin .normal [(5,.ptr 1 0),(6,.raw 3)] [.asr 8,.asr 7,.asr 5,.asr 3]) bm (λ_ h=>by cases h) rfl bm bm (by rfl) hs rfl ?_;refine yu (win:=[]) (tb:=.call 59 [.raw 3] [.asr 8] (vT 2) [.asr 9] ⟨16,3,5,4,3,10⟩<|.call 15 [.ptr 1 0,vT 2] [.asr 7] (.tup [vI 16,.lit .nilIface]) [.asr 10] ⟨17,3,5,4,3,11⟩<|.call 17 [.ptr 1 0,.int .u8 (.z 59)] [.asr 10] (.lit .nilIface) [.asr 11] ⟨17,3,5,4,3,12⟩<|.fin .normal [] [.asr 11,.asr 5,.asr 3]) (N:=100000) bm (λ_ h=>by cases h) λl=>?_;refine dcU {t:=[(dK (lget (preA at2 1) (k:Int)).1.nd ((lget (preA at2 1) (k:Int)).1.kids.length:Int))],a:=[atA Γ (lget (preA at2 1) (k:Int)).1]} (λ_ _=>To Γ (lget (preA at2 1) (k:Int)).1 Kk0 Kk0) λZ=>?_;refine bS (λ(n1:Int)=>{i:=[n1],a:=[cp bk1 (L++(dK (lget (preA at2 1) (k:Int)).1.nd ((lget (preA at2 1) (k:Int)).1.kids.length:Int)))]}) _ (λ_ _=>Ld Γ bk1 (dK (lget (preA at2 1) (k:Int)).1.nd ((lget (preA at2 1) (k:Int)).1.kids.length:Int)) L Kk0) λZ n1 qd1=>?_;refine dcU {a:=[cp bk1 ((L++(dK (lget (preA at2 1) (k:Int)).1.nd ((lget (preA at2 1) (k:Int)).1.kids.length:Int)))++[UInt8.ofNat (Int.toNat 59)])]} (λ_ _=>Jv Γ bk1 59 (L++(dK (lget (preA at2 1) (k:Int)).1.nd ((lget (preA at2 1) (k:Int)).1.kids.length:Int))) Kk0 Kk0) λZ=>?_;exact nS ((L++(dK (lget (preA at2 1) (k:Int)).1.nd ((lget (preA at2 1) (k:Int)).1.kids.length:Int)))++[UInt8.ofNat (Int.toNat 59)]) Kk0 rfl
 .intro Z L hi dm3;refine sZ (C:=Lz Γ x K ks Z0 l) jY (N:=100000) (fr':=zk1) (mem:=[.obj 3 (.deferred true),.blk 2 [.raw 2] 144,.asr 4,.asr 7,.asr 5,.asr 3]) (win:=[]) (c:=⟨15,2,5,3,4,8⟩) (mks:=[3]) (t:=.call 26 [.ptr 1 0] [.asr 7] (vT 2) [] ⟨15,3,5,3,4,8⟩<|.ret (.tup [vT 2,Fd]) [.asr 3]) (va {i:=[x.k,x.v0,x.v1,x.v2,x.v5,x.a0,x.a1,x.a2,x.a3,x.b0,x.b1,x.b2,x.b3,x.rows,e0],t:=[x.v3,x.name],b:=[x.v4,x.a4,x.a5,x.b4,x.b5],r:=[K,(.ptr bk0 0),at2.p],n:=[bk0,bk1,C1,dm3],a:=[br Γ (oneS K) ks,br Γ (oneS K) ks,bB Γ (.ptr bk0 0) (Tr.mk x ks),br Γ (oneS K) ks,atA Γ at2,bB Γ (.ptr bk0 0) (Tr.mk x ks),cp bk1 [],cp bk1 L]}) bm ((show _=([(12,.func (.func 95) [] [.ptr C1 0]),(5,.ptr bk1 0)]:List (Nat×SV))from rfl).trans (show([(12,.func (.func 95) [] [.ptr C1 0]),(5,.ptr bk1 0)]:List (Nat×SV))=_ from rfl)) rfl rfl (λ_ h=>by cases h) ?_;show den (fnC Tryz.prog Γ Tryz.f25 1 [dm3] (d4 Z0::l) (dz Z0 (JK Γ x K ks l))) _ _ _ _;refine dcU {t:=[L]} (λ_ _=>M1 Γ bk1 L Kk0) λZ=>?_;exact an λh hs=>⟨L,0,Kk1,rfl,hs⟩
theorem JG(x:ND)(K:SV)(ks:List Tr)(hk:(sizeL ks:Int)<=1800000)(ho:okT (Tr.mk x ks))(hs:St Z0 (br Γ (oneS K) ks::l) h):RC Γ Z0 25 [.agg (ndL x (oneS K))] h (JK Γ x K ks l):=by
 refine bL Tryz.f25 Tryz.func25 [.agg TQ] [.asr 0] ⟨14,2,5,1,0,1⟩ (va {TD x K with a:=[br Γ (oneS K) ks]}) (.new<|.call 57 [.agg TQ] [.asr 0] (vI 14) [.asr 1] ⟨15,2,5,1,1,2⟩<|.fork (.eq (.v 14) (.z 0)) (.new<|.call 58 [.ptr 0 0] [] (.fn 95 [] [.ptr 2 0]) [.blk 2 [.raw 1] 144] ⟨15,2,5,2,3,2⟩<|.swap [.blk 0 TQ 85,.asr 1] [.asr 2,.asr 3] ⟨15,2,5,2,3,4⟩<|.swap [.asr 2,.blk 2 [.raw 1] 144] [.asr 4,.blk 2 [.raw 2] 144,.asr 5] ⟨15,2,5,3,3,6⟩<|.swap [.blk 1 [.lit (.pointer none),.lit mt] 58] [.asr 6] ⟨15,2,5,3,3,7⟩<|.stop [0,1,0,1,1,1] zk1 [.blk 2 [.raw 2] 144,.asr 4,.asr 6,.asr 5,.asr 3])<|.ret (.tup [.txt (.tl []),vI 14]) [.asr 1]) hs ?_;refine bA λbk0=>?_;refine bS (λ(e0:Int)=>{i:=[e0],a:=[br Γ (oneS K) ks]}) _ (λ_ _=>Ij Γ x K ks Kk0) λZ e0 qd0=>?_;refine bo (e0=0) rfl (λcd1=>?_) λcd1=>?_
 .refine bA λbk1=>?_;refine bS (λ(C1:Nat)=>{r:=[(.ptr bk0 0)],n:=[C1]}) _ (λl h hs=>(by have hr:=N3 Γ (.ptr bk0 0) (Z0:=Z) (l:=l) (h:=h) (by first|exact hs|(simp only[bN,bP];exact hs));first|exact hr|(simp only[RC,bN,bP]at hr;exact hr)|(simp only[RC,bN,bP,LR]at hr;exact hr))) λZ C1 qd1=>?_;refine jt (λ(_:Unit)=>{a:=[bB Γ (.ptr bk0 0) (Tr.mk x ks),br Γ (oneS K) ks]}) (λ(_:Unit)=>True) (λl h hs=>om rfl (hs) (m:=l) (h:=h)) λZ _ _=>?_;refine bQ (α:=AT) (λ(at2:AT)=>{r:=[at2.p],a:=[atA Γ at2,bB Γ (.ptr bk0 0) (Tr.mk x ks)]}) (λ(at2:AT)=>at2.p=(.ptr bk0 0)/\at2.tr=(Tr.mk x ks)) (λl h hs=>HA (hs) (m:=l) (h:=h)) λat2 qs3=>?_;refine dsU {a:=[cp bk1 []]} (λl h hs=>vZ (hs) (l:=l) (h:=h)) ?_;exact bu (LB Γ x K ks hk ho bk0 e0 bk1 C1 at2 ([]) Kk0) rfl rfl
 .exact an λh hs=>⟨([]:bn),e0,Kk1,rfl,hs⟩
abbrev zl0:List XV:=[I (.z 3),Fd,Fd,.txt (.tl []),.bool (.eq (.v 0) (.z 84)),Fd]
abbrev zl1:List MI:=[.blk 0 [vT 0,vI 0,TB] 213]
abbrev zl2:List MI:=[.blk 0 [vT 2,vI 3,TB] 213]
abbrev zl3:List MI:=[.blk 0 [vT 5,vI 10,vB 5] 213]
abbrev zl4:List MI:=[.blk 0 [vT 0,vI 0,vB 0] 213]
abbrev zl5:List MI:=[.blk 0 [vT 1,vI 2,vB 1] 213]
abbrev zl6:List MI:=[.blk 0 [vT 2,vI 3,vB 2] 213]
abbrev zl7:List MI:=[.blk 0 [vT 3,vI 5,vB 3] 213]
abbrev zl8:List MI:=[.blk 0 [vT 1,vI 3,vB 1] 213]
abbrev zl9:List MI:=[.blk 0 [vT 2,vI 4,vB 2] 213]
abbrev DD:List MI:=[.blk 0 [vT 0,vI 1,vB 0] 213]
theorem Kl1{P:Prop}(h:P:=by first|omega|(have w1:=qr (bZ s 0);have w2:=tFl s 0 bj;omega)|(have w0:=BH s _ (by assumption);have w3:(1:Int)<=(s.length:Int):=w0;have w1:=qr (bZ s 1);have w2:=tFl s 1 bj;omega)|omega|(and_intros<;>intros<;>and_intros<;>first|omega|assumption|(have w1:=kV s p0;omega)|exact V1)):P:=h
theorem Kl3{P:Prop}(h:P:=by first|rfl|(show(sV ([]:bn):SV)=_;simp_all)):P:=h
theorem Kl4{P:Prop}(h:P:=by first|omega|(and_intros<;>intros<;>and_intros<;>first|omega|assumption|(have w1:=kV s p0;omega)|exact V1)):P:=h
theorem Kl8{P:Prop}(h:P:=by first|rfl|(show(.agg [iV 3,iV 0,iV 0,sV ([]:bn),bV (decide (w=84)),iV 0]:SV)=_;simp_all)):P:=h
def ti(a b:Int):Int:=IntKind.wrap .i64 ((BitVec.ofInt 64 a&&& BitVec.ofInt 64 b).toNat)
theorem xu{P:Program}{t:TypeId}{a b:Int}(xo yo:Operand):one (binQ P .and t xo yo (iV a) (iV b))=some (iV (ti a b),[]):=by
 rw[show iV a=.lit (.int .i64 a)from rfl,show iV b=.lit (.int .i64 b)from rfl,dH (v:=.int .i64 (ti a b)) jZ (Bi (by
  rw[bh (λhh=>hh rfl)];rfl) ⟨λe=>(by cases e),λe=>(by cases e)⟩)]
 rfl
theorem kV(s p:bn):((Go.Lib.trimPrefix s p).length:Int)<=(s.length:Int):=by
 unfold Go.Lib.trimPrefix;split
 .rw[aR];omega
 .omega
theorem BH(s p:bn)(h:Go.Lib.hasPrefix s p=true):(p.length:Int)<=(s.length:Int):=by
 have:=(List.isPrefixOf_iff_prefix.1 h).length_le;omega
def b2i(b:Bool):Int:=if b=true then 1 else 0
abbrev Tn(Γ:Glob)(R:Nat)(p0 s:bn)(nd:Int)(bad:Bool):TG:=λl Zq vq hq=>∃s2:bn,∃bad2:Bool,((s2.length:Int)<=s.length/\(bad=true->bad2=true))/\vq=.tuple []/\St Zq (own R (.cells [sV s2,iV nd,bV bad2] 213)::l) hq
theorem wl(R:Nat)(p0 s:bn)(nd:Int)(bad:Bool)(hs0:(s.length:Int)<=3100)(hs:St Z0 (own R (.cells [sV s,iV nd,bV bad] 213)::l) h):RC Γ Z0 161 [.ptr R 0,sV p0] h (Tn Γ R p0 s nd bad l):=by
 refine bL Tryz.f161 Tryz.func161 [.ptr 0 0,vT 0] [.blk 0 [vT 1,vI 0,vB 0] 213] ⟨1,2,1,0,1,0⟩ (va {i:=[nd],t:=[p0,s],b:=[bad],n:=[R]}) (.call 61 [vT 1,vT 0] [] (.tup [vT 2,vB 1]) [] ⟨1,3,2,0,1,0⟩<|.fork (.bv 1) (.ret (.tup []) [.blk 0 [vT 2,vI 0,vB 0] 213])<|.ret (.tup []) [.blk 0 [vT 2,vI 0,TB] 213]) hs ?_;refine dcU {t:=[(Go.Lib.trimPrefix s p0)],b:=[(Go.Lib.hasPrefix s p0)]} (λ_ _=>w7r Γ s p0) λZ=>?_;refine bo ((Go.Lib.hasPrefix s p0)=true) rfl (λcd1=>?_) λcd1=>?_
 .exact an λh hs=>⟨(Go.Lib.trimPrefix s p0),bad,Kl4,TS,hs⟩
 .exact an λh hs=>⟨(Go.Lib.trimPrefix s p0),true,Kl4,TS,hs⟩
abbrev RT(Γ:Glob)(R:Nat)(s:bn)(nd:Int)(bad:Bool):TG:=λl Zq vq hq=>∃z:Int,∃s2:bn,∃bad2:Bool,((s2.length:Int)<=s.length/\(bad=true->bad2=true)/\TE z)/\vq=iV z/\St Zq (own R (.cells [sV s2,iV nd,bV bad2] 213)::l) hq
theorem sA(R:Nat)(s:bn)(nd:Int)(bad:Bool)(hs0:(s.length:Int)<=3100)(hs:St Z0 (own R (.cells [sV s,iV nd,bV bad] 213)::l) h):RC Γ Z0 163 [.ptr R 0] h (RT Γ R s nd bad l):=by
 refine bL Tryz.f163 Tryz.func163 [.ptr 0 0] zl4 ⟨1,1,1,0,1,0⟩ (va {i:=[nd],t:=[s],b:=[bad],n:=[R]}) (.call 118 [vT 0,.txt (.tl [45])] [] (vB 1) [] ⟨1,1,2,0,1,0⟩<|.fork (.bv 1) (.vc (.le (.z 0) (.z 1))<|.vc (.le (.z 1) (.len (.tv 0)))<|.call 218 [.txt (.tfr (.tv 0) (.z 1))] [] (vI 1) [] ⟨2,1,2,0,1,0⟩<|.vc (xI (.add (.z 1) (.v 1)))<|.vc (.le (.z 0) (.add (.z 1) (.v 1)))<|.vc (.le (.add (.z 1) (.v 1)) (.len (.tv 0)))<|.call 159 [.txt (.tto (.tv 0) (.add (.z 1) (.v 1)))] [] (.tup [vI 2,.raw 0]) [] ⟨3,1,2,1,1,0⟩<|.row (.bin .neq 61 (.raw 0) (.lit .nilIface)) [] (vB 2) ⟨3,1,3,1,1,0⟩<|.fork (.bv 2) (.ret (Fd) zl1)<|.vc (.le (.z 0) (.add (.z 1) (.v 1)))<|.vc (.le (.add (.z 1) (.v 1)) (.len (.tv 0)))<|.ret (vI 2) [.blk 0 [.txt (.tfr (.tv 0) (.add (.z 1) (.v 1))),vI 0,vB 0] 213])<|.vc (.le (.z 0) (.z 0))<|.vc (.le (.z 0) (.len (.tv 0)))<|.call 218 [.txt (.tfr (.tv 0) (.z 0))] [] (vI 1) [] ⟨2,1,2,0,1,0⟩<|.vc (xI (.add (.z 0) (.v 1)))<|.vc (.le (.z 0) (.add (.z 0) (.v 1)))<|.vc (.le (.add (.z 0) (.v 1)) (.len (.tv 0)))<|.call 159 [.txt (.tto (.tv 0) (.add (.z 0) (.v 1)))] [] (.tup [vI 2,.raw 0]) [] ⟨3,1,2,1,1,0⟩<|.row (.bin .neq 61 (.raw 0) (.lit .nilIface)) [] (vB 2) ⟨3,1,3,1,1,0⟩<|.fork (.bv 2) (.ret (Fd) zl1)<|.vc (.le (.z 0) (.add (.z 0) (.v 1)))<|.vc (.le (.add (.z 0) (.v 1)) (.len (.tv 0)))<|.ret (vI 2) [.blk 0 [.txt (.tfr (.tv 0) (.add (.z 0) (.v 1))),vI 0,vB 0] 213]) hs ?_;refine dcU {b:=[(Go.Lib.hasPrefix s ([45]:bn))]} (λ_ _=>w6r Γ s ([45]:bn)) λZ=>?_;refine bo ((Go.Lib.hasPrefix s ([45]:bn))=true) rfl (λcd1=>?_) λcd1=>?_
 .refine bE (show 0<=1 from Kl1) ?_;refine bE (show 1<=(s.length:Int)from Kl1) ?_;refine cU {i:=[(dOf (bZ s 1))]} (λl h hs=>GJ Γ (bZ s 1) TM hs) ?_;refine bE (show I6 (1+(dOf (bZ s 1)))from Kl1) ?_;refine bE (show 0<=(1+(dOf (bZ s 1)))from Kl1) ?_;refine bE (show(1+(dOf (bZ s 1)))<=(s.length:Int)from Kl1) ?_;refine dc2 (λ(nz1:Int) (er1:SV)=>{i:=[nz1],r:=[er1]}) _ (λ_ _=>Ma Γ (tTo s (1+(dOf (bZ s 1)))) Kl1) λZ nz1 er1 qd1=>?_;refine iQ {b:=[(isErr (oneS er1))]} (λ_ xo yo=>CQ Kl1 xo yo) ?_;refine bo ((isErr (oneS er1))=true) rfl (λcd2=>?_) λcd2=>?_
  .exact an λh hs=>⟨0,s,true,Kl1,TT,hs⟩
  .refine bE (show 0<=(1+(dOf (bZ s 1)))from Kl1) ?_;refine bE (show(1+(dOf (bZ s 1)))<=(s.length:Int)from Kl1) ?_;exact an λh hs=>⟨nz1,(bZ s (1+(dOf (bZ s 1)))),bad,Kl1,rfl,hs⟩
 .refine bE (show 0<=0 from Kl1) ?_;refine bE (show 0<=(s.length:Int)from Kl1) ?_;refine cU {i:=[(dOf (bZ s 0))]} (λl h hs=>GJ Γ (bZ s 0) TM hs) ?_;refine bE (show I6 (0+(dOf (bZ s 0)))from Kl1) ?_;refine bE (show 0<=(0+(dOf (bZ s 0)))from Kl1) ?_;refine bE (show(0+(dOf (bZ s 0)))<=(s.length:Int)from Kl1) ?_;refine dc2 (λ(nz2:Int) (er2:SV)=>{i:=[nz2],r:=[er2]}) _ (λ_ _=>Ma Γ (tTo s (0+(dOf (bZ s 0)))) Kl1) λZ nz2 er2 qd2=>?_;refine iQ {b:=[(isErr (oneS er2))]} (λ_ xo yo=>CQ Kl1 xo yo) ?_;refine bo ((isErr (oneS er2))=true) rfl (λcd2=>?_) λcd2=>?_
  .exact an λh hs=>⟨0,s,true,Kl1,TT,hs⟩
  .refine bE (show 0<=(0+(dOf (bZ s 0)))from Kl1) ?_;refine bE (show(0+(dOf (bZ s 0)))<=(s.length:Int)from Kl1) ?_;exact an λh hs=>⟨nz2,(bZ s (0+(dOf (bZ s 0)))),bad,Kl1,rfl,hs⟩
abbrev Sw(Γ:Glob)(R:Nat)(s:bn)(nd:Int)(bad:Bool):TG:=λl Zq vq hq=>∃x:bn,∃s2:bn,∃bad2:Bool,((s2.length:Int)<=s.length/\(bad=true->bad2=true)/\(x.length:Int)<=s.length)/\vq=sV x/\St Zq (own R (.cells [sV s2,iV nd,bV bad2] 213)::l) hq
theorem M6(R:Nat)(s:bn)(nd:Int)(bad:Bool)(hs0:(s.length:Int)<=3100)(hs:St Z0 (own R (.cells [sV s,iV nd,bV bad] 213)::l) h):RC Γ Z0 162 [.ptr R 0] h (Sw Γ R s nd bad l):=by
 refine bL Tryz.f162 Tryz.func162 [.ptr 0 0] zl4 ⟨1,1,1,0,1,0⟩ (va {i:=[nd],t:=[s],b:=[bad],n:=[R]}) (.call 163 [.ptr 0 0] zl4 (vI 1) zl5 ⟨3,2,2,0,1,0⟩<|.call 161 [.ptr 0 0,.txt (.tl [58])] zl5 (.tup []) zl6 ⟨4,3,3,0,1,0⟩<|.fork (.bv 2) (.ret (.txt (.tl [])) zl2)<|.fork (.lt (.v 1) (.z 0)) (.ret (.txt (.tl [])) zl2)<|.fork (.lt (.len (.tv 2)) (.v 1)) (.ret (.txt (.tl [])) zl2)<|.vc (.le (.z 0) (.v 1))<|.vc (.le (.v 1) (.len (.tv 2)))<|.vc (.le (.z 0) (.v 1))<|.vc (.le (.v 1) (.len (.tv 2)))<|.ret (.txt (.tto (.tv 2) (.v 1))) [.blk 0 [.txt (.tfr (.tv 2) (.v 1)),vI 3,vB 2] 213]) hs ?_;refine dc3 (λ(z0:Int) (s20:bn) (bad20:Bool)=>{i:=[z0,nd],t:=[s20],b:=[bad20]}) _ (λ_ _=>sA Γ R s nd bad TJ) λZ z0 s20 bad20 qd0=>?_;refine dc2 (λ(s21:bn) (bad21:Bool)=>{i:=[nd],t:=[s21],b:=[bad21]}) _ (λ_ _=>wl Γ R ([58]:bn) s20 nd bad20 TJ) λZ s21 bad21 qd1=>?_;refine bo (bad21=true) rfl (λcd1=>?_) λcd1=>?_
 .exact an λh hs=>⟨([]:bn),s21,true,TH,Kl3,hs⟩
 .refine bo (z0<0) rfl (λcd2=>?_) λcd2=>?_
  .exact an λh hs=>⟨([]:bn),s21,true,TH,Kl3,hs⟩
  .refine bo ((s21.length:Int)<z0) rfl (λcd3=>?_) λcd3=>?_
   .exact an λh hs=>⟨([]:bn),s21,true,TH,Kl3,hs⟩
   .refine bE (show 0<=z0 from TJ) ?_;refine bE (show z0<=(s21.length:Int)from TJ) ?_;refine bE (show 0<=z0 from TJ) ?_;refine bE (show z0<=(s21.length:Int)from TJ) ?_;exact an λh hs=>⟨(tTo s21 z0),(bZ s21 z0),bad21,TH,rfl,hs⟩
abbrev SF(Γ:Glob)(R:Nat)(s:bn)(nd:Int)(bad:Bool):TG:=λl Zq vq hq=>∃x:bn,∃s2:bn,∃bad2:Bool,((s2.length:Int)<=s.length/\(bad=true->bad2=true)/\(x.length:Int)<=s.length)/\vq=sV x/\St Zq (own R (.cells [sV s2,iV nd,bV bad2] 213)::l) hq
theorem Pm(R:Nat)(s:bn)(nd:Int)(bad:Bool)(hs0:(s.length:Int)<=3100)(hs:St Z0 (own R (.cells [sV s,iV nd,bV bad] 213)::l) h):RC Γ Z0 164 [.ptr R 0] h (SF Γ R s nd bad l):=by
 refine bL Tryz.f164 Tryz.func164 [.ptr 0 0] zl4 ⟨1,1,1,0,1,0⟩ (va {i:=[nd],t:=[s],b:=[bad],n:=[R]}) (.call 219 [vT 0,.int .u8 (.z 59)] [] (vI 1) [] ⟨2,1,1,0,1,0⟩<|.fork (.lt (.v 1) (.z 0)) (.ret (.txt (.tl [])) zl1)<|.vc (.le (.z 0) (.v 1))<|.vc (.le (.v 1) (.len (.tv 0)))<|.vc (.le (.z 0) (.v 1))<|.vc (.le (.v 1) (.len (.tv 0)))<|.ret (.txt (.tto (.tv 0) (.v 1))) [.blk 0 [.txt (.tfr (.tv 0) (.v 1)),vI 0,vB 0] 213]) hs ?_;refine bS (λ(r0:Int)=>{i:=[r0]}) _ (λ_ _=>Sc Γ s 59 TJ) λZ r0 qd0=>?_;refine bo (r0<0) rfl (λcd1=>?_) λcd1=>?_
 .exact an λh hs=>⟨([]:bn),s,true,TH,Kl3,hs⟩
 .refine bE (show 0<=r0 from TJ) ?_;refine bE (show r0<=(s.length:Int)from TJ) ?_;refine bE (show 0<=r0 from TJ) ?_;refine bE (show r0<=(s.length:Int)from TJ) ?_;exact an λh hs=>⟨(tTo s r0),(bZ s r0),bad,TH,rfl,hs⟩
abbrev Tu(Γ:Glob)(R:Nat)(s:bn)(nd:Int)(bad:Bool):TG:=λl Zq vq hq=>∃xa:Int,∃xn:Int,∃s2:bn,∃bad2:Bool,((s2.length:Int)<=s.length/\(bad=true->bad2=true)/\TF xa (TE xn))/\vq=.agg [iV xa,iV xn]/\St Zq (own R (.cells [sV s2,iV nd,bV bad2] 213)::l) hq
theorem Rc(R:Nat)(s:bn)(nd:Int)(bad:Bool)(hs0:(s.length:Int)<=3100)(hs:St Z0 (own R (.cells [sV s,iV nd,bV bad] 213)::l) h):RC Γ Z0 217 [.ptr R 0] h (Tu Γ R s nd bad l):=by
 refine bL Tryz.f217 Tryz.func217 [.ptr 0 0] zl4 ⟨1,1,1,0,1,0⟩ (va {i:=[nd],t:=[s],b:=[bad],n:=[R]}) (.new<|.call 163 [.ptr 0 0] zl4 (vI 1) zl5 ⟨3,2,2,0,2,0⟩<|.call 161 [.ptr 0 0,.txt (.tl [46])] zl5 (.tup []) zl6 ⟨4,3,3,0,2,0⟩<|.call 163 [.ptr 0 0] zl6 (vI 4) zl7 ⟨6,4,4,0,2,0⟩<|.ret (.agg [vI 1,vI 4]) zl7) hs ?_;refine bA λbk1=>?_;refine dc3 (λ(z0:Int) (s20:bn) (bad20:Bool)=>{i:=[z0,nd],t:=[s20],b:=[bad20]}) _ (λ_ _=>sA Γ R s nd bad TJ) λZ z0 s20 bad20 qd0=>?_;refine dc2 (λ(s21:bn) (bad21:Bool)=>{i:=[nd],t:=[s21],b:=[bad21]}) _ (λ_ _=>wl Γ R ([46]:bn) s20 nd bad20 TJ) λZ s21 bad21 qd1=>?_;refine dc3 (λ(z2:Int) (s22:bn) (bad22:Bool)=>{i:=[z2,nd],t:=[s22],b:=[bad22]}) _ (λ_ _=>sA Γ R s21 nd bad21 TJ) λZ z2 s22 bad22 qd2=>?_;exact an λh hs=>⟨z0,z2,s22,bad22,TH,rfl,hs⟩
abbrev Se(Γ:Glob)(R:Nat)(s:bn)(nd:Int)(bad:Bool):TG:=λl Zq vq hq=>∃c0:Int,∃c1:Int,∃c2:Int,∃c3:Int,∃c4:Bool,∃c5:Bool,∃s2:bn,∃bad2:Bool,((s2.length:Int)<=s.length/\(bad=true->bad2=true)/\TF c0 (TF c1 (TF c2 (TE c3))))/\vq=.agg [iV c0,iV c1,iV c2,iV c3,bV c4,bV c5]/\St Zq (own R (.cells [sV s2,iV nd,bV bad2] 213)::l) hq
theorem Ii(R:Nat)(s:bn)(nd:Int)(bad:Bool)(hs0:(s.length:Int)<=3100)(hs:St Z0 (own R (.cells [sV s,iV nd,bV bad] 213)::l) h):RC Γ Z0 160 [.ptr R 0] h (Se Γ R s nd bad l):=by
 refine bL Tryz.f160 Tryz.func160 [.ptr 0 0] zl4 ⟨1,1,1,0,1,0⟩ (va {i:=[nd],t:=[s],b:=[bad],n:=[R]}) (.new<|.new<|.call 217 [.ptr 0 0] zl4 (.agg [vI 1,vI 2]) zl8 ⟨4,2,2,0,3,0⟩<|.call 161 [.ptr 0 0,.txt (.tl [44])] zl8 (.tup []) zl9 ⟨5,3,3,0,3,0⟩<|.call 217 [.ptr 0 0] zl9 (.agg [vI 5,vI 6]) [.blk 0 [vT 3,vI 7,vB 3] 213] ⟨8,4,4,0,3,0⟩<|.call 161 [.ptr 0 0,.txt (.tl [44])] [.blk 0 [vT 3,vI 7,vB 3] 213] (.tup []) [.blk 0 [vT 4,vI 8,vB 4] 213] ⟨9,5,5,0,3,0⟩<|.call 163 [.ptr 0 0] [.blk 0 [vT 4,vI 8,vB 4] 213] (vI 9) zl3 ⟨11,6,6,0,3,0⟩<|.row (.bin .and 3 (vI 9) (I (.z 1))) [] (vI 11) ⟨12,6,6,0,3,0⟩<|.row (.bin .and 3 (vI 9) (I (.z 2))) [] (vI 12) ⟨13,6,6,0,3,0⟩<|.ret (.agg [vI 1,vI 2,vI 5,vI 6,.bool (.not (.eq (.v 11) (.z 0))),.bool (.not (.eq (.v 12) (.z 0)))]) zl3) hs ?_;refine bA λbk1=>?_;refine bA λbk2=>?_;refine dc4 (λ(xa0:Int) (xn0:Int) (s20:bn) (bad20:Bool)=>{i:=[xa0,xn0,nd],t:=[s20],b:=[bad20]}) _ (λ_ _=>Rc Γ R s nd bad TJ) λZ xa0 xn0 s20 bad20 qd0=>?_;refine dc2 (λ(s21:bn) (bad21:Bool)=>{i:=[nd],t:=[s21],b:=[bad21]}) _ (λ_ _=>wl Γ R ([44]:bn) s20 nd bad20 TJ) λZ s21 bad21 qd1=>?_;refine dc4 (λ(xa2:Int) (xn2:Int) (s22:bn) (bad22:Bool)=>{i:=[xa2,xn2,nd],t:=[s22],b:=[bad22]}) _ (λ_ _=>Rc Γ R s21 nd bad21 TJ) λZ xa2 xn2 s22 bad22 qd2=>?_;refine dc2 (λ(s23:bn) (bad23:Bool)=>{i:=[nd],t:=[s23],b:=[bad23]}) _ (λ_ _=>wl Γ R ([44]:bn) s22 nd bad22 TJ) λZ s23 bad23 qd3=>?_;refine dc3 (λ(z4:Int) (s24:bn) (bad24:Bool)=>{i:=[z4,nd],t:=[s24],b:=[bad24]}) _ (λ_ _=>sA Γ R s23 nd bad23 TJ) λZ z4 s24 bad24 qd4=>?_;refine iQ {i:=[(ti z4 1)]} (λ_ xo yo=>xu xo yo) ?_;refine iQ {i:=[(ti z4 2)]} (λ_ xo yo=>xu xo yo) ?_;exact an λh hs=>⟨xa0,xn0,xa2,xn2,(!(decide ((ti z4 1)=0))),(!(decide ((ti z4 2)=0))),s24,bad24,TH,rfl,hs⟩
abbrev Sg(Γ:Glob)(R:Nat)(w:Int)(s:bn)(nd:Int)(bad:Bool):TG:=λl Zq vq hq=>∃k:Int,∃m:Int,∃e:Int,∃x:bn,∃tr:Bool,∃f:Int,∃s2:bn,∃bad2:Bool,((s2.length:Int)<=s.length/\(bad=true->bad2=true)/\TF m (TF e (TF f ((x.length:Int)<=s.length))))/\vq=.agg [iV k,iV m,iV e,sV x,bV tr,iV f]/\St Zq (own R (.cells [sV s2,iV nd,bV bad2] 213)::l) hq
theorem Tl(R:Nat)(w:Int)(s:bn)(nd:Int)(bad:Bool)(hs0:(s.length:Int)<=3100)(hs:St Z0 (own R (.cells [sV s,iV nd,bV bad] 213)::l) h):RC Γ Z0 165 [.ptr R 0,yV w] h (Sg Γ R w s nd bad l):=by
 refine bL Tryz.f165 Tryz.func165 [.ptr 0 0,.int .u8 (.v 0)] DD ⟨2,1,1,0,1,0⟩ (va {i:=[w,nd],t:=[s],b:=[bad],n:=[R]}) (.new<|.new<|.fork (.eq (.v 0) (.z 78)) (.call 163 [.ptr 0 0] DD (vI 2) zl8 ⟨4,2,2,0,3,0⟩<|.call 161 [.ptr 0 0,.txt (.tl [101])] zl8 (.tup []) zl9 ⟨5,3,3,0,3,0⟩<|.call 163 [.ptr 0 0] zl9 (vI 5) [.blk 0 [vT 3,vI 6,vB 3] 213] ⟨7,4,4,0,3,0⟩<|.ret (.agg [I (.z 1),vI 2,vI 5,.txt (.tl []),TA,Fd]) [.blk 0 [vT 3,vI 6,vB 3] 213])<|.fork (.eq (.v 0) (.z 83)) (.call 162 [.ptr 0 0] DD (vT 1) [.blk 0 [vT 2,vI 2,vB 1] 213] ⟨3,3,2,0,3,0⟩<|.ret (.agg [I (.z 2),Fd,Fd,vT 1,TA,Fd]) [.blk 0 [vT 2,vI 2,vB 1] 213])<|.fork (.eq (.v 0) (.z 84)) (.ret (.agg zl0) DD)<|.fork (.eq (.v 0) (.z 70)) (.ret (.agg zl0) DD)<|.fork (.eq (.v 0) (.z 69)) (.call 163 [.ptr 0 0] DD (vI 2) zl8 ⟨4,2,2,0,3,0⟩<|.ret (.agg [I (.z 4),Fd,Fd,.txt (.tl []),TA,vI 2]) zl8)<|.ret (.agg [Fd,Fd,Fd,.txt (.tl []),TA,Fd]) [.blk 0 [vT 0,vI 1,TB] 213]) hs ?_;refine bA λbk1=>?_;refine bA λbk2=>?_;refine bo (w=78) rfl (λcd1=>?_) λcd1=>?_
 .refine dc3 (λ(z0:Int) (s20:bn) (bad20:Bool)=>{i:=[z0,nd],t:=[s20],b:=[bad20]}) _ (λ_ _=>sA Γ R s nd bad TJ) λZ z0 s20 bad20 qd0=>?_;refine dc2 (λ(s21:bn) (bad21:Bool)=>{i:=[nd],t:=[s21],b:=[bad21]}) _ (λ_ _=>wl Γ R ([101]:bn) s20 nd bad20 TJ) λZ s21 bad21 qd1=>?_;refine dc3 (λ(z2:Int) (s22:bn) (bad22:Bool)=>{i:=[z2,nd],t:=[s22],b:=[bad22]}) _ (λ_ _=>sA Γ R s21 nd bad21 TJ) λZ z2 s22 bad22 qd2=>?_;exact an λh hs=>⟨1,z0,z2,([]:bn),false,0,s22,bad22,TH,rfl,hs⟩
 .refine bo (w=83) rfl (λcd2=>?_) λcd2=>?_
  .refine dc3 (λ(x3:bn) (s23:bn) (bad23:Bool)=>{i:=[nd],t:=[x3,s23],b:=[bad23]}) _ (λ_ _=>M6 Γ R s nd bad TJ) λZ x3 s23 bad23 qd3=>?_;exact an λh hs=>⟨2,0,0,x3,false,0,s23,bad23,TH,rfl,hs⟩
  .refine bo (w=84) rfl (λcd3=>?_) λcd3=>?_
   .exact an λh hs=>⟨3,0,0,([]:bn),(decide (w=84)),0,s,bad,TH,Kl8,hs⟩
   .refine bo (w=70) rfl (λcd4=>?_) λcd4=>?_
    .exact an λh hs=>⟨3,0,0,([]:bn),(decide (w=84)),0,s,bad,TH,Kl8,hs⟩
    .refine bo (w=69) rfl (λcd5=>?_) λcd5=>?_
     .refine dc3 (λ(z4:Int) (s24:bn) (bad24:Bool)=>{i:=[z4,nd],t:=[s24],b:=[bad24]}) _ (λ_ _=>sA Γ R s nd bad TJ) λZ z4 s24 bad24 qd4=>?_;exact an λh hs=>⟨4,0,0,([]:bn),false,z4,s24,bad24,TH,rfl,hs⟩
     .exact an λh hs=>⟨0,0,0,([]:bn),false,0,s,true,TH,rfl,hs⟩
end Go.Proofs.YtbhokokpplmigaaGreatDoor.Sx
namespace Go.Proofs.YtbhokokpplmigaaGreatDoor.ft
open Go
theorem mS{c:UInt8}{p:List UInt8}(r:List UInt8)(h:c∉p):Lib.index (p++c::r) [c]=p.length:=by
 refine Lib.index_first (by simp) ?_ λj hj=>?_
 .simp[Lib.occAt]
 .cases hb:Lib.occAt (p++c::r) [c] j with
  |false=>rfl
  |true=>
   have h1:=Lib.occAt_head rfl hb;rw[List.getElem?_append_left hj]at h1;exact absurd (List.mem_of_getElem? h1) h
theorem rp{c:UInt8}{l:List UInt8}(h:c∉l):Lib.index l [c]= -1:=by
 refine Lib.index_none λj _=>?_;cases hb:Lib.occAt l [c] j with
 |false=>rfl
 |true=>exact absurd (List.mem_of_getElem? (Lib.occAt_head rfl hb)) h
theorem zV{c:UInt8}{p:List UInt8}(r:List UInt8)(h:c∉p):Lib.cut (p++c::r) [c]=(p,r,true):=by
 unfold Lib.cut;rw[mS r h,if_pos (by omega)];simp
theorem cut_no{c:UInt8}{l:List UInt8}(h:c∉l):Lib.cut l [c]=(l,[],false):=by
 unfold Lib.cut;rw[rp h,if_neg (by omega)]
theorem kQ{c:UInt8}{l:List UInt8}(h:c∈l):∃p r,l=p++c::r/\c∉p:=by
 induction l with
 |nil=>cases h
 |cons a l ih=>
  by_cases e:a=c
  .exact⟨[],l,by rw[e];rfl,List.not_mem_nil⟩
  .obtain⟨p,r,rfl,h2⟩:=ih ((List.mem_cons.1 h).resolve_left λh=>e h.symm);exact⟨a::p,r,rfl,λh=>(List.mem_cons.1 h).elim (λh=>e h.symm) h2⟩
def rep(c:UInt8)(new l:List UInt8):List UInt8:=l.flatMap λb=>if b=c then new else[b]
theorem wy{c:UInt8}{new l:List UInt8}(h:c∉l):rep c new l=l:=by
 induction l with
 |nil=>rfl
 |cons a l ih=>
  have ha:¬a=c:=λe=>h (e▸List.mem_cons_self ..);have:=ih λe=>h (List.mem_cons_of_mem _ e);unfold rep at this⊢;rw[List.flatMap_cons,this,if_neg ha];rfl
theorem mf(c:UInt8)(new l m:List UInt8):rep c new (l++m)=rep c new l++rep c new m:=List.flatMap_append ..
theorem nj(c:UInt8)(new:List UInt8)(a:UInt8)(l:List UInt8):rep c new (a::l)=(if a=c then new else[a])++rep c new l:=List.flatMap_cons ..
theorem Kf{c:UInt8}{new:List UInt8}(h:new.length=2)(l:List UInt8):(rep c new l).length<=2*l.length:=by
 induction l with
 |nil=>exact Nat.le_refl _
 |cons a l ih=>
  rw[nj,List.length_append,List.length_cons];by_cases e:a=c
  .rw[if_pos e];omega
  .rw[if_neg e,List.length_singleton];omega
theorem pk{c:UInt8}{new:List UInt8}:∀(n:Nat) (l:List UInt8),l.length<=n->Lib.replaceK [c] new (Lib.count l [c]) l=rep c new l
 |n,l,hn=>by
  by_cases h:c∈l
  .obtain⟨p,r,rfl,hp⟩:=kQ h;rw[Lib.count_hit (by simp) (mS r hp),Nat.add_comm 1,Lib.replaceK_hit _ _ _ _ _ (mS r hp)];have e1:(p++c::r).drop (p.length+[c].length)=r:=by simp
   have e2:(p++c::r).take p.length=p:=by simp
   rw[e1,e2,mf,nj,if_pos rfl,wy hp];have hl:r.length<=n-1:=by simp at hn;omega
   cases n with
   |zero=>simp at hn
   |succ n=>rw[pk n r (by simpa using hl),List.append_assoc]
  .rw[Lib.count_miss (rp h),wy h];rfl
theorem count_le_len{c:UInt8}:∀(n:Nat) (l:List UInt8),l.length<=n->Lib.count l [c]<=l.length
 |n,l,hn=>by
  by_cases h:c∈l
  .obtain⟨p,r,rfl,hp⟩:=kQ h;have e1:(p++c::r).drop (p.length+[c].length)=r:=by simp
   rw[Lib.count_hit (by simp) (mS r hp),e1];cases n with
   |zero=>simp at hn
   |succ n=>
    have:=count_le_len (c:=c) n r (by simp at hn;omega);simp;omega
  .rw[Lib.count_miss (rp h)];omega
theorem replaceAll_eq{c:UInt8}{new l:List UInt8}(h:new≠[c]):Lib.replaceAll l [c] new=rep c new l:=by
 unfold Lib.replaceAll Lib.replace;have:¬([c]==new)=true:=λe=>h (eq_of_beq e).symm;rw[if_neg this];unfold Lib.replaceNum;rw[if_pos (by left;omega)];exact pk l.length l (Nat.le_refl _)
def e1(l:List UInt8):List UInt8:=rep 92 [92,92] l
def esc(l:List UInt8):List UInt8:=rep 10 [92,110] (e1 l)
theorem esc_nil:esc []=[]:=rfl
theorem esc_append(l m:List UInt8):esc (l++m)=esc l++esc m:=by unfold esc e1;rw[mf,mf]
theorem esc_bs(l:List UInt8):esc (92::l)=92::92::esc l:=by unfold esc e1;simp[nj]
theorem esc_nl(l:List UInt8):esc (10::l)=92::110::esc l:=by unfold esc e1;simp[nj]
theorem esc_no{l:List UInt8}(h1:92∉l)(h2:10∉l):esc l=l:=by unfold esc e1;rw[wy h1,wy h2]
theorem e1_len(l:List UInt8):(e1 l).length<=2*l.length:=Kf rfl l
end Go.Proofs.YtbhokokpplmigaaGreatDoor.ft
namespace Go.Proofs.YtbhokokpplmigaaGreatDoor.Sx
open Go Go.Proofs.YtbhokokpplmigaaGreatDoor.ft
theorem gm{s:List UInt8}{c:UInt8}(h:(Go.Lib.cut s [c]).2.2=true):s=(Go.Lib.cut s [c]).1++c::(Go.Lib.cut s [c]).2.1/\c∉(Go.Lib.cut s [c]).1:=by
 by_cases hm:c∈s
 .obtain⟨p,r,rfl,hp⟩:=kQ hm;rw[zV r hp];exact⟨rfl,hp⟩
 .rw[cut_no hm]at h;cases h
theorem ia{s:List UInt8}{c:UInt8}(h:¬(Go.Lib.cut s [c]).2.2=true):(Go.Lib.cut s [c])=(s,[],false)/\c∉s:=by
 by_cases hm:c∈s
 .obtain⟨p,r,rfl,hp⟩:=kQ hm;rw[zV r hp]at h;exact absurd rfl h
 .exact⟨cut_no hm,hm⟩
theorem gq(s:List UInt8)(c:UInt8):((Go.Lib.cut s [c]).1.length:Int)<=(s.length:Int)/\((Go.Lib.cut s [c]).2.1.length:Int)<=(s.length:Int):=by
 by_cases hm:c∈s
 .obtain⟨p,r,rfl,hp⟩:=kQ hm;rw[zV r hp];simp only[List.length_append,List.length_cons];omega
 .rw[cut_no hm];simp
theorem rT{s:List UInt8}{c:UInt8}(h:(Go.Lib.cut s [c]).2.2=true):((Go.Lib.cut s [c]).1.length:Int)+((Go.Lib.cut s [c]).2.1.length:Int)+1=(s.length:Int):=by
 have e:=congrArg List.length (gm h).1;rw[List.length_append,List.length_cons]at e;omega
open Go Go.Proofs.YtbhokokpplmigaaGreatDoor.Ev
def c8(f:Nat->Option AObj)(b:Nat):Option (List SV):=match f b with
 |some (.cells l _)=>some l
 |some (.row l _ _ _ _)=>some l
 |_=>none
def WinV(f:Nat->Option AObj)(b o:Nat)(cs:List SV):Prop:=∃l,c8 f b=some l/\cut l o cs.length=some cs
def uW(f g:Nat->Option AObj):Prop:=∀b o,f b=some o->g b=some o
theorem WinV.sub{f g:Nat->Option AObj}(z:uW f g){b o:Nat}{cs:List SV}(w:WinV f b o cs):WinV g b o cs:=by
 obtain⟨l,h1,h2⟩:=w;refine⟨l,?_,h2⟩;unfold c8 at h1⊢;cases h:f b with
 |none=>rw[h]at h1;cases h1
 |some x=>rw[z b x h];rw[h]at h1;exact h1
def kdV:SV->Nat
 | .lit (.int ..)=>0
 | .lit (.string _)=>1
 | .lit (.bool _)=>2
 |_=>3
def ndK:List Nat:=[0,0,0,0,1,2,0,1,0,0,0,0,2,2,0,0,0,0,2,2,0]
theorem wS(x:ND)(L:SV):(x.cells L).map kdV=ndK++[kdV L]:=rfl
set_option maxRecDepth 100000 in
theorem ET{L:SV}{n:Int}(h:LenIs L n):kdV L=1\/kdV L=3:=by
 have h0:=h.2.2.1 ⟨.leaf,0⟩;cases L with
 |lit v=>
  cases v with
  |int k z=>exact absurd (show(none:Option (SV×List Fact))=some (iV n,[])from h0) (by simp)
  |bool b=>exact absurd (show(none:Option (SV×List Fact))=some (iV n,[])from h0) (by simp)
  |string s=>exact .inl rfl
  |_=>exact .inr rfl
 |_=>exact .inr rfl
theorem GQ:∀k∈[1,3],∀k'∈[0,1,2,3],∀s∈(List.range 22).drop 1,((ndK++[k]).drop s).isPrefixOf (ndK++[k'])=false:=by decide
theorem Lo(v:SV):kdV v∈[0,1,2,3]:=by
 unfold kdV;split<;>simp
theorem ui{l:List SV}{o q:Nat}{x y:ND}{K L:SV}{n:Int}(hK:LenIs K n)(h1:cut l o 22=some (x.cells K))(h2:cut l q 22=some (y.cells L)):q=o\/o+21<q\/q+21<o+21:=by
 by_cases e:q<=o
 .omega
 by_cases e2:o+21<q
 .exact .inr (.inl e2)
 exfalso;have hs:∃s,q=o+s/\1<=s/\s<22:=⟨q-o,by omega,by omega,by omega⟩;obtain⟨s,rfl,hs1,hs2⟩:=hs;have c1:=(dg.1 h1).1;have c2:=(dg.1 h2).1;have hp:(x.cells K).drop s=(y.cells L).take (22-s):=by
  rw[<-c1,<-c2,List.drop_take,List.drop_drop,List.take_take,Nat.min_eq_left bj]
 have hk:((ndK++[kdV K]).drop s).isPrefixOf (ndK++[kdV L])=true:=by
  rw[<-wS x,<-wS y,<-List.map_drop,hp,List.map_take];exact List.isPrefixOf_iff_prefix.2 (List.take_prefix ..)
 have hno:=GQ (kdV K) (by rcases ET hK with h|h<;>rw[h]<;>decide) (kdV L) (Lo L) s (by
  rw[show(List.range 22).drop 1=[1,2,3,4,5,6,7,8,9,10,11,12,13,14,15,16,17,18,19,20,21]from rfl];simp only[aD,List.not_mem_nil,or_false];omega)
 rw[hno]at hk;cases hk
theorem jP{x y:ND}{K L:SV}(h:x.cells K=y.cells L):x=y/\K=L:=by
 cases x;cases y;simp only[ND.cells,List.cons.injEq,SV.lit.injEq,Value.int.injEq,Value.string.injEq,Value.bool.injEq,true_and,and_true,ByteArray.mk.injEq,Array.mk.injEq]at h;obtain⟨rfl,rfl,rfl,rfl,rfl,rfl,rfl,rfl,rfl,rfl,rfl,rfl,rfl,rfl,rfl,rfl,rfl,rfl,rfl,rfl,rfl,h⟩:=h;exact⟨rfl,h⟩
def PtrV(Γ:Glob)(f:Nat->Option AObj)(p:SV)(cs:List SV):Prop:=(∃b o,p=.ptr b o/\WinV f b o cs)\/(∃g o,p=.lit (.pointer (some ⟨g,o,none⟩))/\GWin Γ g o cs)
inductive TreeV (Γ:Glob) (f:Nat->Option AObj):SV->Tr->Prop
 |mk {p:SV} {x:ND} {L:SV} {ks:List Tr} (q:Nat->SV):PtrV Γ f p (x.cells L)->LenIs L ks.length->IdxAt L ks.length q->(∀i t,ks[i]? =some t->TreeV Γ f (q i) t)->TreeV Γ f p ⟨x,ks⟩
section
variable {Γ:Glob}{f g:Nat->Option AObj}{p:SV}{t:Tr}
theorem PtrV.sub(z:uW f g){cs:List SV}(w:PtrV Γ f p cs):PtrV Γ g p cs:=w.imp (λ⟨b,o,e,w⟩=>⟨b,o,e,w.sub z⟩) id
theorem TreeV.sub(z:uW f g)(w:TreeV Γ f p t):TreeV Γ g p t:=by
 induction w with
 |mk q h1 h2 h3 _ ih=>exact .mk q (h1.sub z) h2 h3 ih
theorem TreeAt.toV{Z:Hp}(z:uW Z.objs.get f)(w:TreeAt Γ Z p t):TreeV Γ f p t:=by
 induction w with
 |mk q h1 h2 h3 _ ih=>
  refine .mk q ?_ h2 h3 ih;refine PtrV.sub (f:=Z.objs.get) z (h1.imp (λ⟨b,o,e,w⟩=>⟨b,o,e,?_⟩) id);obtain⟨l,h3,h4⟩:=w.get;exact⟨l,h3,h4⟩
theorem TreeV.toAt{Z:Hp}(hn:∀b o,Z.objs.get b=some o->b<Z.next)(w:TreeV Γ Z.objs.get p t):TreeAt Γ Z p t:=by
 induction w with
 |mk q h1 h2 h3 _ ih=>
  refine .mk q (h1.imp (λ⟨b,o,e,w⟩=>⟨b,o,e,?_⟩) id) h2 h3 ih;obtain⟨l,h3,h4⟩:=w;refine⟨?_,l,h3,h4⟩;unfold c8 at h3;cases h:Z.objs.get b with
  |none=>rw[h]at h3;cases h3
  |some x=>exact hn b x h
theorem PtrV.uniq{c d:List SV}(h:c.length=d.length)(w:PtrV Γ f p c)(v:PtrV Γ f p d):c=d:=by
 rcases w with⟨b,o,rfl,l,h1,h2⟩|⟨b,o,rfl,⟨l,h1,h2⟩⟩
 .rcases v with⟨b',o',e,l',h3,h4⟩|⟨b',o',e,_⟩
  .obtain⟨rfl,rfl⟩:b=b'/\o=o':=by cases e;exact⟨rfl,rfl⟩
   obtain rfl:l=l':=ab (h1.symm.trans h3);rw[<-h,h2]at h4;exact ab h4
  .cases e
 .rcases v with⟨b',o',e,_⟩|⟨b',o',e,⟨l',h3,h4⟩⟩
  .cases e
  .obtain⟨rfl,rfl⟩:b=b'/\o=o':=by cases e;exact⟨rfl,rfl⟩
   obtain rfl:l=l':=ab (h1.symm.trans h3);rw[<-h,h2]at h4;exact ab h4
theorem kY{L:SV}{n m:Int}(h1:LenIs L n)(h2:LenIs L m):n=m:=by
 have e:=(h1.2.2.1 ⟨.leaf,0⟩).symm.trans (h2.2.2.1 ⟨.leaf,0⟩);simp only[a7,ap,SV.lit.injEq,Value.int.injEq,true_and,and_true]at e;exact e
theorem TreeV.uniq(w:TreeV Γ f p t):∀{t':Tr},TreeV Γ f p t'->t=t':=by
 induction w with
 |@mk p x L ks q h1 h2 h3 _ ih=>
  intro t' v;cases v with
  |@mk _ x' L' ks' q' k1 k2 k3 k4=>
   obtain⟨rfl,rfl⟩:=jP (PtrV.uniq (by rfl) h1 k1);have hl:ks.length=ks'.length:=by exact_mod_cast kY h2 k2
   congr 1;refine List.ext_getElem hl λi a b=>?_;have e1:=h3 i a;have e2:=k3 i b;have e3:q i=q' i:=ab (e1.symm.trans e2);refine ih i _ (aB a) ?_;rw[e3];exact k4 i _ (aB b)
theorem ju{l:List SV}{o n k:Nat}{v:SV}(h:k<o\/o+n<=k):cut (l.set k v) o n=cut l o n:=by
 have e:((l.set k v).drop o).take n=(l.drop o).take n:=by
  refine List.ext_getElem? λi=>?_;rw[List.getElem?_take,List.getElem?_take];by_cases hi:i<n
  .rw[bi hi,bi hi,List.getElem?_drop,List.getElem?_drop,List.getElem?_set_ne bj]
  .rw[bh hi,bh hi]
 unfold cut;rw[e]
theorem qq{l:List SV}{o:Nat}{x:ND}{K L:SV}(h:cut l o 22=some (x.cells K)):cut (l.set (o+21) L) o 22=some (x.cells L):=by
 have c:=dg.1 h;have e:((l.set (o+21) L).drop o).take 22=x.cells L:=by
  have hd:(l.set (o+21) L).drop o=(l.drop o).set 21 L:=by
   rw[List.drop_set,bh bj,Nat.add_sub_cancel_left]
  rw[hd,List.take_set,c.1];rfl
 exact dg.2 ⟨e,by rw[e];rfl⟩
theorem DG{b o:Nat}{l:List SV}{x:ND}{K L':SV}{ks:List Tr}{q':Nat->SV}(hf:c8 f b=some l)(hg:c8 g b=some (l.set (o+21) L'))(ho:∀c,c≠b->g c=f c)
 (hc:cut l o 22=some (x.cells K)) (hT:TreeV Γ f (.ptr b o) ⟨x,ks⟩) (hl:LenIs L' ks.length) (hi:IdxAt L' ks.length q') (hk:∀i t,ks[i]? =some t->TreeV Γ g (q' i) t) (w:TreeV Γ f p t):TreeV Γ g p t:=by
 have hKn:∃n,LenIs K n:=by
  cases hT with
  |@mk _ _ L0 _ q h1 h2 h3 h4=>
   have:=(jP (PtrV.uniq (by rfl) h1 (.inl ⟨b,o,rfl,l,hf,hc⟩))).2;subst this;exact⟨_,h2⟩
 obtain⟨n,hKn⟩:=hKn;have hnew:TreeV Γ g (.ptr b o) ⟨x,ks⟩:=.mk q' (.inl ⟨b,o,rfl,_,hg,qq hc⟩) hl hi hk
 induction w with
 |@mk p y L js q h1 h2 h3 h4 ih=>
  rcases h1 with⟨b1,o1,rfl,l1,e1,e2⟩|h1
  .by_cases hb:b1=b
   .subst hb;obtain rfl:l=l1:=ab (hf.symm.trans e1);rcases ui hKn hc e2 with rfl|h|h
    .have:=TreeV.uniq hT (.mk q (.inl ⟨b1,o1,rfl,l,e1,e2⟩) h2 h3 h4);rw[<-this];exact hnew
    .exact .mk q (.inl ⟨b1,o1,rfl,_,hg,by rw[show(y.cells L).length=22 from rfl,ju (.inl h)];exact e2⟩) h2 h3 ih
    .exact .mk q (.inl ⟨b1,o1,rfl,_,hg,by rw[show(y.cells L).length=22 from rfl,ju (.inr bj)];exact e2⟩) h2 h3 ih
   .exact .mk q (.inl ⟨b1,o1,rfl,l1,by unfold c8 at e1⊢;rw[ho b1 hb];exact e1,e2⟩) h2 h3 ih
  .exact .mk q (.inr h1) h2 h3 ih
end
section
variable {C:Cx}{c d:Cnt}{ρ:Va}{Z:Hp}{t:Ct}
theorem nV{key:RK}{k:List MI}{nv:XV}{α:Type}(e:α->Vals)(q:α->Prop)(h:∀l h,St Z (cR ρ k++l) h->∃x,q x/\∃fs,key.says C.P C.Γ ρ h (nv.sv (ρ.ext c (e x)),fs))(kk:∀x,q x->den C t d (ρ.ext c (e x)) Z):den C (.row key k nv d t) c ρ Z:=λl h' hs=>by
 obtain⟨x,h1,fs,h2⟩:=h l h' hs;exact⟨e x,fs,h2,kk x h1⟩
end
open Classical in
noncomputable def fV(Z:Hp)(D:Nat->Prop)(h:Hp):Nat->Option AObj:=λb=>if D b then h.objs.get b else Z.objs.get b
section
variable {Γ:Glob}{Z Z' h h':Hp}{D:Nat->Prop}
theorem Nb(hk:∀b,D b->h'.objs.get b=h.objs.get b):fV Z D h'=fV Z D h:=by
 funext b;unfold fV;by_cases hb:D b
 .rw[bi hb,bi hb,hk b hb]
 .rw[bh hb,bh hb]
theorem Jn(z:Sub Z Z'):uW (fV Z D h) (fV Z' D h):=λb o e=>by
 unfold fV at e⊢;by_cases hb:D b
 .rw[bi hb]at e⊢;exact e
 .rw[bh hb]at e⊢;exact z.2 b o e
theorem wC(hd:∀b,D b->¬Z.objs.get b≠none):uW Z.objs.get (fV Z D h):=λb o e=>by
 unfold fV;by_cases hb:D b
 .exact absurd (by rw[e];simp) (hd b hb)
 .rw[bh hb];exact e
theorem xc{b:Nat}(hb:D b):fV Z D h b=h.objs.get b:=bi hb
end
def PendAt(Γ:Glob)(Z:Hp)(D:Nat->Prop)(h:Hp)(p:SV)(t:Tr):Prop:=∃b o l x K ks,p=.ptr b o/\D b/\c8 h.objs.get b=some l/\cut l o 22=some (ND.cells x K)/\t=Tr.mk x ks/\KidsOf Γ Z K ks
section
variable {Γ:Glob}{Z h:Hp}{m:List Asrt}{root K:SV}{T:Tr}{S:List (SV×Tr)}{b:Nat}{x:ND}{ks:List Tr}{c:List SV}{e:TypeId}
theorem PendAt.tree{D:Nat->Prop}{p:SV}{t:Tr}(hd:∀b,D b->¬Z.objs.get b≠none)(w:PendAt Γ Z D h p t):TreeV Γ (fV Z D h) p t:=by
 obtain⟨b,o,l,x,K,ks,rfl,e2,e3,e4,rfl,hL,q,hq,ht⟩:=w;refine .mk q (.inl ⟨b,o,rfl,l,?_,e4⟩) hL hq λi t hi=>(ht i t hi).toV (wC hd);unfold c8 at e3⊢;rw[xc e2];exact e3
def dU(b:Nat)(ts:List Tr):List (SV×Tr):=ts.zipIdx.map λy=>(.ptr b (y.2*22),y.1)
theorem Cb{b:Nat}{ts:List Tr}{i:Nat}{t:Tr}(h:ts[i]? =some t):(.ptr b (i*22),t)∈dU b ts:=by
 refine List.mem_map.2 ⟨(t,i),?_,rfl⟩;rw[List.mem_zipIdx_iff_getElem?];exact h
theorem Cq{b:Nat}{ts:List Tr}{y:SV×Tr}(h:y∈dU b ts):∃i,ts[i]? =some y.2/\y.1=.ptr b (i*22):=by
 obtain⟨⟨t,i⟩,h1,rfl⟩:=List.mem_map.1 h;rw[List.mem_zipIdx_iff_getElem?]at h1;exact⟨i,h1,rfl⟩
theorem Ee(b:Nat)(ts:List Tr):((dU b ts).map Prod.fst).Nodup:=by
 unfold dU;rw[List.map_map];have e:ts.zipIdx.map (Prod.fst∘λy:Tr×Nat=>((.ptr b (y.2*22):SV),y.1))=(List.range ts.length).map λi=>(.ptr b (i*22):SV):=by
  refine List.ext_getElem (by simp) λi h1 h2=>?_;simp
 rw[e];refine List.pairwise_iff_getElem.2 λi j hi hj hij e=>?_;simp only[List.getElem_map,List.getElem_range,SV.ptr.injEq,true_and]at e;omega
theorem CN{L:SV}{n:Int}(h:LenIs L n):L.cells=[L]:=cells_one h.1
theorem tI{l:List SV}{f:Nat->ND×SV}:∀n:Nat,(∀i,i<n->cut l (i*22) 22=some (em (f i)))->l.take (n*22)=((List.range n).map f).flatMap em
 |0,_=>by simp
 |n+1,h=>by
  have ih:=tI n λi hi=>h i bj;have h1:=(dg.1 (h n (aq n))).1;rw[List.range_succ,aH,List.flatMap_append,<-ih,Nat.succ_mul,List.take_add,h1];simp
theorem Cz{L:SV}(hn:ks=[]->L=.lit (.slice none 0 0))(s:St Z (br Γ L ks::m) h):∃es,NodesOk Γ Z es ks/\de Γ h 22 L=some ((es.map em).flatten,ks.length):=by
 obtain⟨⟨hL,q,hq,ht⟩,s1⟩:=cX.1 s;by_cases h0:ks=[]
 .rw[hn h0,h0];exact⟨[],⟨rfl,λi e t h=>by simp at h⟩,rfl⟩
 have hpos:0<ks.length:=List.length_pos_iff.2 h0;have main:∀b:Nat,(∀i,i<ks.length->q i=.ptr b (i*22))->∃(f:Nat->ND×SV) (l:List SV),NodesOk Γ Z ((List.range ks.length).map f) ks/\knownCells h b=some l/\cut l 0 (ks.length*22)=some (((List.range ks.length).map f).map em).flatten:=by
  intro b hb;have hc:∀i:Nat,∃e:ND×SV,∀t,ks[i]? =some t->e.1=t.nd/\KidsOf Γ Z e.2 t.kids/\∃l,knownCells Z b=some l/\cut l (i*22) 22=some (em e):=λi=>by
   cases e:ks[i]? with
   |none=>exact⟨(default,.lit .nilIface),λt h=>by cases h⟩
   |some t=>
    have w:=ht i t e;rw[hb i (List.getElem?_eq_some_iff.1 e).1]at w;cases t with
    |mk x js=>
     obtain⟨K,w1,w2⟩:=w.out;refine⟨(x,K),λt' h=>?_⟩;cases h;refine⟨rfl,w2,?_⟩;rcases w1 with⟨b',o',e',w1⟩|⟨g,o',e',_⟩
     .obtain⟨rfl,rfl⟩:b=b'/\i*22=o':=by cases e';exact⟨rfl,rfl⟩
      exact w1.get
     .cases e'
  obtain⟨f,hf⟩:=Classical.axiomOfChoice hc;have hg:∀i (hi:i<ks.length),ks[i]? =some ks[i]:=λi hi=>aB hi;obtain⟨_,_,l,hl,_⟩:=hf 0 _ (hg 0 hpos);have hcut:∀i,i<ks.length->cut l (i*22) 22=some (em (f i)):=λi hi=>by
   obtain⟨_,_,l',hl',hc'⟩:=hf i _ (hg i hi);obtain rfl:=ab (hl.symm.trans hl');exact hc'
  refine⟨f,l,⟨by simp,λi e t h1 h2=>?_⟩,?_,?_⟩
  .have hi:=(List.getElem?_eq_some_iff.1 h2).1;rw[aV,List.getElem?_range hi,af,a7]at h1;subst h1;have:=hf i t h2;exact⟨this.1,this.2.1⟩
  .unfold knownCells at hl⊢;cases ho:Z.objs.get b with
   |none=>rw[ho]at hl;cases hl
   |some o=>rw[s.frz b o ho];rw[ho]at hl;exact hl
  .rw[eT];exact ii (by rw[List.drop_zero];exact tI ks.length hcut) (by rw[lH];simp)
 rcases hL.2.2.2 with⟨b,n,c,rfl⟩|⟨b,n,c,rfl⟩|rfl
 .have hlen:(ks.length:Int)=n:=kY hL (jq b n c);have hlen:ks.length=n:=by omega
  obtain⟨f,l,w,hk,hcu⟩:=main b λi hi=>ab ((hq i hi).symm.trans (jv b n c i bj));refine⟨_,w,?_⟩;subst hlen;simp only[de,bF,hk,ay,hcu]
 .have hlen:(ks.length:Int)=n:=kY hL (ov b n c);have hlen:ks.length=n:=by omega
  obtain⟨f,l,w,hk,hcu⟩:=main b λi hi=>ab ((hq i hi).symm.trans (oB b n c i bj));refine⟨_,w,?_⟩;subst hlen;simp only[de,bF,hk,ay,hcu]
 .have:(ks.length:Int)=0:=kY hL gK;omega
theorem Ki{st:TypeId}{v L:SV}{ts:List Tr}(hst:tyU Tryz.prog st=some (.slice 85))(hn:ks=[]->L=.lit (.slice none 0 0))(s:St Z (nlA Γ v ts::br Γ L ks::m) h)(h1:ts.length<=1900000)(h2:ks.length<=1900000):
 ∃v' H,val (cQ Tryz.prog Γ h [st,st] v L)=some [(oneS v',H)]/\h.next<=H.next/\True/\St Z (nlA Γ (oneS v') (ts++ks)::br Γ L ks::m) H:=by
 obtain⟨fs,w2,hsrc⟩:=Cz hn s.rot1;obtain⟨es,w1,s⟩:=jK.1 s;have hall2:∀x∈fs.map em,x.length=22/\x.all SV.one=true:=λx hx=>by
  obtain⟨e,he,rfl⟩:=List.mem_map.1 hx;obtain⟨i,hi⟩:=List.getElem?_of_mem he;have hi2:i<ks.length:=by rw[<-w2.1];exact(List.getElem?_eq_some_iff.1 hi).1
  have h3:=(w2.2 i e _ hi (aB hi2)).2.1.1;refine⟨rfl,?_⟩;simp only[em,ND.cells,al,List.all_nil,h3,Bool.and_true];rfl
 obtain⟨v',H,e1,e2,e3⟩:=um (Γ:=Γ) hst Cc (by decide) (by rw[ao,w2.1];exact hsrc) hall2 s (by rw[ao,w1.1];exact h1) (by rw[ao,w2.1];exact h2);refine⟨v',H,by rw[e1];rfl,e2,trivial,jK.2 ⟨es++fs,⟨by simp[w1.1,w2.1],λi e t e4 e5=>?_⟩,by rw[aH];exact e3⟩⟩;by_cases hi:i<es.length
 .rw[aU hi]at e4;rw[aU (by rw[<-w1.1];exact hi)]at e5;exact w1.2 i e t e4 e5
 .rw[List.getElem?_append_right bj]at e4;rw[List.getElem?_append_right (by rw[<-w1.1];omega),<-w1.1]at e5;exact w2.2 _ e t e4 e5
theorem He{L:SV}(hn:fS L=true)(s:St Z (br Γ L ks::m) h):ks=[]:=by
 have hL:=(cX.1 s).1.1;rcases hL.2.2.2 with⟨b,n,c,rfl⟩|⟨b,n,c,rfl⟩|rfl
 .cases hn
 .cases hn
 .have:(ks.length:Int)=0:=kY hL gK;exact List.length_eq_zero_iff.1 bj
theorem EE{L:SV}{t:TypeId}(ht:tyU Tryz.prog t=some (.slice 85))(hn:∀xo yo,binQ Tryz.prog .eql t xo yo (.lit (.slice none 0 0)) (.lit (.slice none 0 0))=some (bV true))(s:St Z (br Γ L ks::m) h):(fS L=true->ks=[])/\∃fs,∀xo yo,one (binQ Tryz.prog .eql t xo yo L (.lit (.slice none 0 0)))=some (bV (fS L),fs):=by
 refine⟨λhh=>He hh s,[],λxo yo=>?_⟩;rcases(cX.1 s).1.1.2.2.2 with⟨b,n,c,rfl⟩|⟨b,n,c,rfl⟩|rfl
 .simp only[binQ,SV.toLit,eZ,ht];rfl
 .simp only[binQ,SV.toLit,eZ,ht];rfl
 .rw[hn];rfl
theorem MF{b:Nat}(s:St Z (own b (.cells [] 85)::m) h):St Z (nlA Γ (.slice b 0 0 0) []::m) h:=
 jK.2 ⟨[],⟨rfl,λi e t h=>by simp at h⟩,yf (l:=[]) (λy hy=>by cases hy) rfl rfl (by decide) s⟩
structure NilK(K:SV)(ks:List Tr):Prop where
 e:ks=[]->oneS K=.lit (.slice none 0 0)
end
theorem gV{ks:List Tr}:NilK (.lit (.slice none 0 0)) ks:=⟨λ_=>cm rfl (by simp[SV.same,dr])⟩
theorem CY{v:SV}{ts:List Tr}{t:Tr}:NilK v (ts++[t]):=⟨λe=>by simp at e⟩
theorem CB{v w:SV}{ks:List Tr}(hn:NilK v ks)(h:¬fS (oneS v)=true):NilK w ks:=⟨λe=>absurd (by rw[hn.e e];rfl) h⟩
end Go.Proofs.YtbhokokpplmigaaGreatDoor.Sx
