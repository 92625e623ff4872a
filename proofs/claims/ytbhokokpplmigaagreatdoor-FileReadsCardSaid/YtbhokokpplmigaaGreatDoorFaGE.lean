/-
  A part of the proof of FileReads; no condition.
-/
import Derived.Test.YtbhokokpplmigaaGreatDoorFaGC
set_option linter.all false
namespace Go.Proofs.YtbhokokpplmigaaGreatDoor.Sx
open Go Go.Proofs.YtbhokokpplmigaaGreatDoor.Ev
set_option maxRecDepth 20000
set_option maxHeartbeats 4000000
variable (Γ:Glob)[Mute Γ]{Z0 h:Hp}{l:List Asrt}
abbrev zm0:List MI:=[.blk 2 [Tz,Fd,Fd,Fd,.txt (.tl []),TA,Fd,vT 1,Fd,Fd,Fd,Fd,TA,TA,Fd,Fd,Fd,Fd,TA,TA,Fd,.lit mt] 85,.blk 1 [Fd,Fd,Fd,Fd,.txt (.tl []),TA,Fd,.txt (.tl []),Fd,Fd,Fd,Fd,TA,TA,Fd,Fd,Fd,Fd,TA,TA,Fd,.lit mt] 85,.blk 0 [vT 2,vI 2,vB 1] 213]
abbrev zm1:List MI:=[.blk 2 [I (.z 3),Fd,Fd,Fd,.txt (.tl []),TA,Fd,.txt (.tl []),vI 2,vI 3,vI 4,vI 5,vB 1,vB 2,Fd,Fd,Fd,Fd,TA,TA,Fd,.lit mt] 85,.blk 1 [Fd,Fd,Fd,Fd,.txt (.tl []),TA,Fd,.txt (.tl []),Fd,Fd,Fd,Fd,TA,TA,Fd,Fd,Fd,Fd,TA,TA,Fd,.lit mt] 85,.blk 0 [vT 1,vI 6,vB 3] 213]
abbrev zm2:List MI:=[.blk 2 (nX 3 1 1 (.lit mt)) 85,.blk 1 [Fd,Fd,Fd,Fd,.txt (.tl []),TA,Fd,.txt (.tl []),Fd,Fd,Fd,Fd,TA,TA,Fd,Fd,Fd,Fd,TA,TA,Fd,.lit mt] 85,.blk 0 [vT 3,vI 17,vB 6] 213]
abbrev zm3:List MI:=[.asr 1,.blk 0 [vT 5,vI 20,vB 8] 213,.blk 2 (nX 3 1 1 (.raw 0)) 85,.blk 1 [Fd,Fd,Fd,Fd,.txt (.tl []),TA,Fd,.txt (.tl []),Fd,Fd,Fd,Fd,TA,TA,Fd,Fd,Fd,Fd,TA,TA,Fd,.lit mt] 85]
abbrev zm5:List XV:=(nX 21 6 9 (.raw 1))
abbrev zm6:List XV:=(nX 3 1 1 (.raw 0))
abbrev zm7:List (Nat×XV):=[(0,.ptr 0 0),(1,vI 0),(4,.ptr 1 0),(5,.ptr 2 0),(7,vI 2),(8,vI 19)]
abbrev zm8:List MI:=[.blk 0 [vT 0,I (.add (.v 1) (.z 1)),TB] 213,.asr 0]
abbrev zm9:List (Nat×XV):=[(0,.ptr 0 0),(1,vI 0),(4,.ptr 1 0),(5,.ptr 2 0),(7,Fd)]
abbrev PM:List (Nat×XV):=[(0,.ptr 0 0),(1,vI 0),(4,.ptr 1 0),(5,.ptr 2 0),(7,I (.z 2))]
abbrev Oz:List (Nat×XV):=[(0,.ptr 0 0),(1,vI 0),(4,.ptr 1 0),(5,.ptr 2 0),(7,vI 2)]
abbrev Mh:List XV:=[vI 2,vI 3,vI 4,vI 5,vB 1,vB 2]
abbrev OV:List MI:=[.blk 0 [vT 5,vI 20,vB 8] 213,.asr 2]
abbrev Jd:List MI:=[.blk 0 [vT 1,vI 6,vB 3] 213]
abbrev Gd:List MI:=[.blk 0 [vT 2,vI 2,vB 1] 213]
theorem Km0{P:Prop}(h:P:=by first|omega|omega|(and_intros<;>intros<;>and_intros<;>first|omega|assumption|(have w7:=tFl s 1 bj;(try dsimp only at*);first|omega|(refine⟨?_⟩;simp only[okND,aw];omega))|(refine⟨?_⟩;simp only[okND,aw];omega)|exact EN (by refine⟨?_⟩;simp only[okND,aw];omega) vx|exact vx|(have w1:=gt ts;have w2:=CP bad4;omega)|(have w3:=AE (b:=bad4) (by assumption);omega)|(have w3:=AE (b:=bad4) (by assumption);simp only[ng,iS,EF,fa];omega)|(have w3:=AE (b:=bad4) (by assumption);have w4:=qd100.2.1;rcases Nw bad2100 with⟨e1,e2⟩|⟨e1,e2⟩<;>first|omega|(have w5:=w4 e1;omega))|(obtain⟨_,_,_,_,_,_,_,_,_,_,h10,h11,h13⟩:=hi;first|exact h10|exact EN h10 h11|exact h13|exact wV h11 (by assumption)|(obtain⟨_,_,_,_,_,_,h12,_⟩:=qd100;exact wV h11 h12))|exact gV|exact CY|(intro h;rw[hi.1]at h;cases h)|(simp only[b2i]at*;split at* <;>first|omega|(split<;>first|omega|(simp_all;done)|(simp_all;omega))|(simp_all;done)|(simp_all;omega))|exact V1)):P:=h
theorem Km1{P:Prop}(h:P:=by first|rfl|(show(.agg [iV 0,iV 0,iV 0,iV 0,sV ([]:bn),bV false,iV 0,sV ([]:bn),iV 0,iV 0,iV 0,iV 0,bV false,bV false,iV 0,iV 0,iV 0,iV 0,bV false,bV false,iV 0,.lit mt]:SV)=_;simp_all)):P:=h
theorem Km2{P:Prop}(h:P:=by first|rfl|(show(.agg (ndL x2 (oneS nl)):SV)=_;simp_all)):P:=h
structure OkT(t:Tr):Prop where
 a:okT t
structure OkL(l:List Tr):Prop where
 a:okL l
structure OkN(x:ND):Prop where
 a:okND x
theorem CP(b:Bool):0<=b2i b/\b2i b<=1:=by cases b<;>decide
theorem AE{b:Bool}(h:¬b=true):b2i b=0:=by cases b<;>simp_all[b2i]
theorem Nw(b:Bool):(b=true/\b2i b=1)\/(b=false/\b2i b=0):=by cases b<;>simp[b2i]
theorem vx:OkL []:=⟨trivial⟩
theorem BT:∀(l:List Tr) (t:Tr),okL l->okT t->okL (l++[t])
 |[],t,_,h=>⟨h,trivial⟩
 |a::l,t,h,h2=>⟨h.1,BT l t h.2 h2⟩
theorem wV{l:List Tr}{t:Tr}(h:OkL l)(h2:OkT t):OkL (l++[t]):=⟨BT l t h.a h2.a⟩
theorem EN{x:ND}{ks:List Tr}(h:OkN x)(h2:OkL ks):OkT (Tr.mk x ks):=⟨⟨h.a,h2.a⟩⟩
abbrev P3(Γ:Glob)(R:Nat)(dp:Int)(s:bn)(nd:Int)(bad:Bool):TG:=λl Zq vq hq=>∃x:ND,∃K:SV,∃s2:bn,∃nd2:Int,∃bad2:Bool,∃ks:List Tr,((s2.length:Int)<=s.length/\(bad2=false->(s2.length:Int)<s.length)/\(bad=true->bad2=true)/\(sizeL ks:Int)+1<=s.length-s2.length+b2i bad2/\nd<nd2/\nd2<=nd+(s.length-s2.length)+b2i bad2/\OkT (Tr.mk x ks)/\NilK K ks)/\vq=.agg (ndL x (oneS K))/\St Zq (own R (.cells [sV s2,iV nd2,bV bad2] 213)::br Γ (oneS K) ks::l) hq
def NG(T:Int):Prop:=∀(Γ:Glob) [Mute Γ] (R:Nat) (dp:Int) (s:bn) (nd:Int) (bad:Bool) (hs0:(s.length:Int)<=3100) (hd:1<=dp/\dp<=33) (hn:0<=nd/\nd+s.length<=10000),((s.length:Int))<T->∀{Z0 h:Hp} {l:List Asrt},St Z0 (own R (.cells [sV s,iV nd,bV bad] 213)::l) h->Runs Tryz.prog Γ (.call 120 [.ptr R 0,iV dp] h) λoq=>∃Z',Sub Z0 Z'/\P3 Γ R dp s nd bad l Z' oq.v oq.hp
abbrev P4(Γ:Glob)(R:Nat)(dp:Int)(s:bn)(nd:Int)(bad:Bool)(T:Int):TG:=λl Zq vq hq=>∃x:ND,∃K:SV,∃s2:bn,∃nd2:Int,∃bad2:Bool,∃ks:List Tr,((s2.length:Int)<=s.length/\(bad2=false->(s2.length:Int)<s.length)/\(bad=true->bad2=true)/\(sizeL ks:Int)+1<=s.length-s2.length+b2i bad2/\nd<nd2/\nd2<=nd+(s.length-s2.length)+b2i bad2/\OkT (Tr.mk x ks)/\NilK K ks)/\vq=.agg (ndL x (oneS K))/\St Zq (own R (.cells [sV s2,iV nd2,bV bad2] 213)::br Γ (oneS K) ks::l) hq
noncomputable abbrev Pl(Γ:Glob)(R:Nat)(dp:Int)(s:bn)(nd:Int)(bad:Bool)(T:Int)(Z0:Hp)(l:List Asrt):Cx:=fnC Tryz.prog Γ Tryz.f120 2 [] (d4 Z0::l) (dz Z0 (P4 Γ R dp s nd bad T l))
theorem LZ(R:Nat)(dp:Int)(s:bn)(nd:Int)(bad:Bool)(T:Int)(hs0:(s.length:Int)<=3100)(hd:1<=dp/\dp<=33)(hn:0<=nd/\nd+s.length<=10000)(hT:((s.length:Int))<=T)(IHtreereadernode_runs:NG T)(bk1 bk2:Nat)(below:Int)(x2:ND)(s3:bn)(nd3:Int)(bad3:Bool)(s25:bn)(bad25:Bool):∀(m:Nat) (Z:Hp) (ix:Int) (nl:SV) (s4:bn) (nd4:Int) (bad4:Bool) (ts:List Tr) (hi:bad=false/\(s4.length:Int)<s.length/\(sizeL ts:Int)+1<=s.length-s4.length+b2i bad4/\nd<nd4/\nd4<=nd+(s.length-s4.length)+b2i bad4/\0<=ix/\(ix=0\/ix<=below)/\dp<=32/\TF below (OkN x2/\OkL ts/\NilK nl ts)) (hm:(2*(s4.length:Int)+1-b2i bad4).toNat<m),den (Pl Γ R dp s nd bad T Z0 l) (.stop [0,1,0,1,1,1,1,1,1,1,1] zm7 zm3) ⟨21,6,9,1,3,2⟩ (va {i:=[dp,nd,below,x2.k,x2.v0,x2.v1,x2.v2,x2.v5,x2.a0,x2.a1,x2.a2,x2.a3,x2.b0,x2.b1,x2.b2,x2.b3,x2.rows,nd3,nd3,ix,nd4],t:=[s,x2.v3,x2.name,s3,s25,s4],b:=[bad,x2.v4,x2.a4,x2.a5,x2.b4,x2.b5,bad3,bad25,bad4],r:=[nl],n:=[R,bk1,bk2],a:=[nlA (Γ) (oneS (.lit mt)) [],nlA Γ (oneS nl) ts]}) Z:=by
 intro m
 induction m with
 |zero=>intros;omega
 |succ m ih=>
  intro Z ix nl s4 nd4 bad4 ts hi hm;refine cZ [0,1,0,1,1,1,1,1,1,1,1] zm7 zm3 [] ⟨21,6,9,1,3,2⟩ (.fork (.lt (.v 19) (.v 2)) (.fork (.bv 8) (.swap [.asr 1] [.asr 2] ⟨21,6,9,1,3,3⟩<|.ret (.agg zm6) OV)<|.vc (xI (.add (.v 0) (.z 1)))<|.call 120 [.ptr 0 0,I (.add (.v 0) (.z 1))] [.blk 0 [vT 5,vI 20,vB 8] 213] (.agg zm5) [.blk 0 [vT 8,vI 35,vB 14] 213,.asr 2] ⟨36,9,15,2,3,3⟩<|.new<|.eff (.app [83,83] (.raw 0) (.slice 3 0 1 1)) [.asr 1,.blk 3 zm5 85,.asr 2] (.raw 2) [.asr 3] ⟨36,9,15,3,4,4⟩<|.vc (xI (.add (.v 19) (.z 1)))<|.stop [0,1,0,1,1,1,1,1,1,1,1] [(0,.ptr 0 0),(1,vI 0),(4,.ptr 1 0),(5,.ptr 2 0),(7,vI 2),(8,I (.add (.v 19) (.z 1)))] [.asr 3,.blk 0 [vT 8,vI 35,vB 14] 213,.blk 2 (nX 3 1 1 (.raw 2)) 85,.blk 1 TU 85])<|.swap [.asr 1] [.asr 2] ⟨21,6,9,1,3,3⟩<|.ret (.agg zm6) OV) 100000 bm (λ_ h=>by cases h) ?_;refine bo (ix<below) rfl (λcd1=>?_) λcd1=>?_
  .refine bo (bad4=true) rfl (λcd2=>?_) λcd2=>?_
   .refine jt (λ(_:Unit)=>{a:=[br Γ (oneS nl) ts]}) (λ(_:Unit)=>True) (λl h hs=>sW (hs) (l:=l) (h:=h)) λZ _ _=>?_;exact an λh hs=>⟨x2,nl,s4,nd4,bad4,ts,Km0,Km2,hs⟩
   .refine bE (show I6 (dp+1)from Km0) ?_;refine dc6 (λ(x100:ND) (K100:SV) (s2100:bn) (nd2100:Int) (bad2100:Bool) (ks100:(List Tr))=>{i:=[x100.k,x100.v0,x100.v1,x100.v2,x100.v5,x100.a0,x100.a1,x100.a2,x100.a3,x100.b0,x100.b1,x100.b2,x100.b3,x100.rows,nd2100],t:=[x100.v3,x100.name,s2100],b:=[x100.v4,x100.a4,x100.a5,x100.b4,x100.b5,bad2100],r:=[K100],a:=[br Γ (oneS K100) ks100]}) _ (λl h hs=>IHtreereadernode_runs (h:=h) (l:=l) Γ R (dp+1) s4 nd4 bad4 Km0 Km0 Km0 Km0 hs) λZ x100 K100 s2100 nd2100 bad2100 ks100 qd100=>?_;refine bA λbk3=>?_;refine dJ (λ(v101:SV)=>{r:=[v101],a:=[nlA Γ (oneS v101) (ts++[Tr.mk x100 ks100])]}) (λ_=>True) (λl h hs=>JA (l:=l) (h:=h) rfl hs rfl (iZ _).1 Km0) λv101 _=>?_;refine bE (show I6 (ix+1)from Km0) ?_;exact bu (ih _ (ix+1) v101 s2100 nd2100 bad2100 (ts++[Tr.mk x100 ks100]) Km0 Km0) rfl rfl
  .refine jt (λ(_:Unit)=>{a:=[br Γ (oneS nl) ts]}) (λ(_:Unit)=>True) (λl h hs=>sW (hs) (l:=l) (h:=h)) λZ _ _=>?_;exact an λh hs=>⟨x2,nl,s4,nd4,bad4,ts,Km0,Km2,hs⟩
theorem Ti(R:Nat)(dp:Int)(s:bn)(nd:Int)(bad:Bool)(T:Int)(hs0:(s.length:Int)<=3100)(hd:1<=dp/\dp<=33)(hn:0<=nd/\nd+s.length<=10000)(hT:((s.length:Int))<=T)(IHtreereadernode_runs:NG T)(hs:St Z0 (own R (.cells [sV s,iV nd,bV bad] 213)::l) h):RC Γ Z0 120 [.ptr R 0,iV dp] h (P4 Γ R dp s nd bad T l):=by
 refine bL Tryz.f120 Tryz.func120 [.ptr 0 0,vI 0] [.blk 0 [vT 0,vI 1,vB 0] 213] ⟨2,1,1,0,1,0⟩ (va {i:=[dp,nd],t:=[s],b:=[bad],n:=[R]}) (.new<|.vc (xI (.add (.v 1) (.z 1)))<|.fork (.bv 0) (.swap [] [.asr 0] ⟨2,1,1,0,2,1⟩<|.ret (.agg TU) zm8)<|.fork (.teq (.tv 0) (.tl [])) (.swap [] [.asr 0] ⟨2,1,1,0,2,1⟩<|.ret (.agg TU) zm8)<|.fork (.lt (.z 32) (.v 0)) (.swap [] [.asr 0] ⟨2,1,1,0,2,1⟩<|.ret (.agg TU) zm8)<|.fork (.lt (.z 256) (.add (.v 1) (.z 1))) (.swap [] [.asr 0] ⟨2,1,1,0,2,1⟩<|.ret (.agg TU) zm8)<|.new<|.vc (.le (.z 0) (.z 0))<|.vc (.lt (.z 0) (.len (.tv 0)))<|.vc (.le (.z 0) (.z 1))<|.vc (.le (.z 1) (.len (.tv 0)))<|.fork (.eq (.at (.tv 0) (.z 0)) (.z 79)) (.call 160 [.ptr 0 0] [.blk 0 [.txt (.tfr (.tv 0) (.z 1)),I (.add (.v 1) (.z 1)),vB 0] 213] (.agg Mh) Jd ⟨7,2,4,0,3,0⟩<|.fork (.eq (.at (.tv 0) (.z 0)) (.z 80)) (.stop [1,1,1,1,1,1,1] zm9 zm1)<|.stop [1,1,1,1,1,1,1] zm9 [.blk 2 [I (.z 1),Fd,Fd,Fd,.txt (.tl []),TA,Fd,.txt (.tl []),vI 2,vI 3,vI 4,vI 5,vB 1,vB 2,Fd,Fd,Fd,Fd,TA,TA,Fd,.lit mt] 85,.blk 1 TU 85,.blk 0 [vT 1,vI 6,vB 3] 213])<|.fork (.eq (.at (.tv 0) (.z 0)) (.z 80)) (.call 160 [.ptr 0 0] [.blk 0 [.txt (.tfr (.tv 0) (.z 1)),I (.add (.v 1) (.z 1)),vB 0] 213] (.agg Mh) Jd ⟨7,2,4,0,3,0⟩<|.stop [1,1,1,1,1,1,1] zm9 zm1)<|.fork (.eq (.at (.tv 0) (.z 0)) (.z 82)) (.call 160 [.ptr 0 0] [.blk 0 [.txt (.tfr (.tv 0) (.z 1)),I (.add (.v 1) (.z 1)),vB 0] 213] (.agg Mh) Jd ⟨7,2,4,0,3,0⟩<|.call 161 [.ptr 0 0,.txt (.tl [58])] Jd (.tup []) [.blk 0 [vT 2,vI 7,vB 4] 213] ⟨8,3,5,0,3,0⟩<|.call 160 [.ptr 0 0] [.blk 0 [vT 2,vI 7,vB 4] 213] (.agg [vI 8,vI 9,vI 10,vI 11,vB 5,vB 6]) [.blk 0 [vT 3,vI 12,vB 7] 213] ⟨13,4,8,0,3,0⟩<|.stop [1,1,1,1,1,1,1] zm9 [.blk 2 [I (.z 2),Fd,Fd,Fd,.txt (.tl []),TA,Fd,.txt (.tl []),vI 2,vI 3,vI 4,vI 5,vB 1,vB 2,vI 8,vI 9,vI 10,vI 11,vB 5,vB 6,Fd,.lit mt] 85,.blk 1 TU 85,.blk 0 [vT 3,vI 12,vB 7] 213])<|.fork (.eq (.at (.tv 0) (.z 0)) (.z 67)) (.call 162 [.ptr 0 0] [.blk 0 [.txt (.tfr (.tv 0) (.z 1)),I (.add (.v 1) (.z 1)),vB 0] 213] (vT 1) Gd ⟨3,3,2,0,3,0⟩<|.call 161 [.ptr 0 0,.txt (.tl [44])] Gd (.tup []) [.blk 0 [vT 3,vI 3,vB 2] 213] ⟨4,4,3,0,3,0⟩<|.call 163 [.ptr 0 0] [.blk 0 [vT 3,vI 3,vB 2] 213] (vI 4) [.blk 0 [vT 4,vI 5,vB 3] 213] ⟨6,5,4,0,3,0⟩<|.stop [1,1,1,1,1,1,1] [(0,.ptr 0 0),(1,vI 0),(4,.ptr 1 0),(5,.ptr 2 0),(7,vI 4)] [.blk 2 [I (.z 4),Fd,Fd,Fd,.txt (.tl []),TA,Fd,vT 1,Fd,Fd,Fd,Fd,TA,TA,Fd,Fd,Fd,Fd,TA,TA,Fd,.lit mt] 85,.blk 1 TU 85,.blk 0 [vT 4,vI 5,vB 3] 213])<|.fork (.eq (.at (.tv 0) (.z 0)) (.z 85)) (.call 164 [.ptr 0 0] [.blk 0 [.txt (.tfr (.tv 0) (.z 1)),I (.add (.v 1) (.z 1)),vB 0] 213] (vT 1) Gd ⟨3,3,2,0,3,0⟩<|.fork (.eq (.at (.tv 0) (.z 0)) (.z 66)) (.stop [1,1,1,1,1,1,1] PM zm0)<|.stop [1,1,1,1,1,1,1] [(0,.ptr 0 0),(1,vI 0),(4,.ptr 1 0),(5,.ptr 2 0),(7,I (.z 1))] [.blk 2 [I (.z 5),Fd,Fd,Fd,.txt (.tl []),TA,Fd,vT 1,Fd,Fd,Fd,Fd,TA,TA,Fd,Fd,Fd,Fd,TA,TA,Fd,.lit mt] 85,.blk 1 TU 85,.blk 0 [vT 2,vI 2,vB 1] 213])<|.fork (.eq (.at (.tv 0) (.z 0)) (.z 66)) (.call 164 [.ptr 0 0] [.blk 0 [.txt (.tfr (.tv 0) (.z 1)),I (.add (.v 1) (.z 1)),vB 0] 213] (vT 1) Gd ⟨3,3,2,0,3,0⟩<|.stop [1,1,1,1,1,1,1] PM zm0)<|.fork (.eq (.at (.tv 0) (.z 0)) (.z 77)) (.call 162 [.ptr 0 0] [.blk 0 [.txt (.tfr (.tv 0) (.z 1)),I (.add (.v 1) (.z 1)),vB 0] 213] (vT 1) Gd ⟨3,3,2,0,3,0⟩<|.stop [1,1,1,1,1,1,1] zm9 [.blk 2 [I (.z 7),Fd,Fd,Fd,.txt (.tl []),TA,Fd,vT 1,Fd,Fd,Fd,Fd,TA,TA,Fd,Fd,Fd,Fd,TA,TA,Fd,.lit mt] 85,.blk 1 TU 85,.blk 0 [vT 2,vI 2,vB 1] 213])<|.fork (.eq (.at (.tv 0) (.z 0)) (.z 65)) (.call 163 [.ptr 0 0] [.blk 0 [.txt (.tfr (.tv 0) (.z 1)),I (.add (.v 1) (.z 1)),vB 0] 213] (vI 2) [.blk 0 [vT 1,vI 3,vB 1] 213] ⟨4,2,2,0,3,0⟩<|.call 161 [.ptr 0 0,.txt (.tl [44])] [.blk 0 [vT 1,vI 3,vB 1] 213] (.tup []) [.blk 0 [vT 2,vI 4,vB 2] 213] ⟨5,3,3,0,3,0⟩<|.call 163 [.ptr 0 0] [.blk 0 [vT 2,vI 4,vB 2] 213] (vI 5) [.blk 0 [vT 3,vI 6,vB 3] 213] ⟨7,4,4,0,3,0⟩<|.stop [1,1,1,1,1,1,1] [(0,.ptr 0 0),(1,vI 0),(4,.ptr 1 0),(5,.ptr 2 0),(7,vI 5)] [.blk 2 [I (.z 8),Fd,Fd,Fd,.txt (.tl []),TA,Fd,.txt (.tl []),Fd,Fd,Fd,Fd,TA,TA,Fd,Fd,Fd,Fd,TA,TA,vI 2,.lit mt] 85,.blk 1 TU 85,.blk 0 [vT 3,vI 6,vB 3] 213])<|.fork (.eq (.at (.tv 0) (.z 0)) (.z 88)) (.stop [1,1,1,1,1,1,1] zm9 [.blk 2 [I (.z 9),Fd,Fd,Fd,.txt (.tl []),TA,Fd,.txt (.tl []),Fd,Fd,Fd,Fd,TA,TA,Fd,Fd,Fd,Fd,TA,TA,Fd,.lit mt] 85,.blk 1 TU 85,.blk 0 [.txt (.tfr (.tv 0) (.z 1)),I (.add (.v 1) (.z 1)),vB 0] 213])<|.call 165 [.ptr 0 0,.int .u8 (.at (.tv 0) (.z 0))] [.blk 0 [.txt (.tfr (.tv 0) (.z 1)),I (.add (.v 1) (.z 1)),vB 0] 213] (.agg [vI 2,vI 3,vI 4,vT 1,vB 1,vI 5]) [.blk 0 [vT 2,vI 6,vB 2] 213] ⟨7,3,3,0,3,0⟩<|.stop [1,1,1,1,1,1,1] zm9 [.blk 2 [Fd,vI 2,vI 3,vI 4,vT 1,vB 1,vI 5,.txt (.tl []),Fd,Fd,Fd,Fd,TA,TA,Fd,Fd,Fd,Fd,TA,TA,Fd,.lit mt] 85,.blk 1 TU 85,.blk 0 [vT 2,vI 6,vB 2] 213]) hs ?_;refine bA λbk1=>?_;refine bE (show I6 (nd+1)from Km0) ?_;refine bo (bad=true) rfl (λcd1=>?_) λcd1=>?_
 .refine dsU {a:=[br Γ (oneS (.lit mt)) ([]:List Tr)]} (λl h hs=>cD (hs) (l:=l) (h:=h)) ?_;exact an λh hs=>⟨(ND.mk 0 0 0 0 ([]:bn) false 0 ([]:bn) 0 0 0 0 false false 0 0 0 0 false false 0),(.lit mt),s,(nd+1),true,([]:List Tr),Km0,Km1,hs⟩
 .refine bo (s=([]:bn)) rfl (λcd2=>?_) λcd2=>?_
  .have zd2:=qN cd2;refine dsU {a:=[br Γ (oneS (.lit mt)) ([]:List Tr)]} (λl h hs=>cD (hs) (l:=l) (h:=h)) ?_;exact an λh hs=>⟨(ND.mk 0 0 0 0 ([]:bn) false 0 ([]:bn) 0 0 0 0 false false 0 0 0 0 false false 0),(.lit mt),s,(nd+1),true,([]:List Tr),Km0,Km1,hs⟩
  .have zd2:=qE cd2;refine bo (32<dp) rfl (λcd3=>?_) λcd3=>?_
   .refine dsU {a:=[br Γ (oneS (.lit mt)) ([]:List Tr)]} (λl h hs=>cD (hs) (l:=l) (h:=h)) ?_;exact an λh hs=>⟨(ND.mk 0 0 0 0 ([]:bn) false 0 ([]:bn) 0 0 0 0 false false 0 0 0 0 false false 0),(.lit mt),s,(nd+1),true,([]:List Tr),Km0,Km1,hs⟩
   .refine bo (256<(nd+1)) rfl (λcd4=>?_) λcd4=>?_
    .refine dsU {a:=[br Γ (oneS (.lit mt)) ([]:List Tr)]} (λl h hs=>cD (hs) (l:=l) (h:=h)) ?_;exact an λh hs=>⟨(ND.mk 0 0 0 0 ([]:bn) false 0 ([]:bn) 0 0 0 0 false false 0 0 0 0 false false 0),(.lit mt),s,(nd+1),true,([]:List Tr),Km0,Km1,hs⟩
    .refine bA λbk2=>?_;refine bE (show 0<=0 from Km0) ?_;refine bE (show 0<(s.length:Int)from Km0) ?_;refine bE (show 0<=1 from Km0) ?_;refine bE (show 1<=(s.length:Int)from Km0) ?_;have j4:∀(Z:Hp) (below:Int) (x2:ND) (s3:bn) (nd3:Int) (bad3:Bool) (_:bad=false/\(s3.length:Int)<s.length/\nd3=nd+1/\dp<=32/\TF below (OkN x2)),den (Pl Γ R dp s nd bad T Z0 l) (.stop [1,1,1,1,1,1,1] Oz zm2) ⟨18,4,7,0,3,0⟩ (va {i:=[dp,nd,below,x2.k,x2.v0,x2.v1,x2.v2,x2.v5,x2.a0,x2.a1,x2.a2,x2.a3,x2.b0,x2.b1,x2.b2,x2.b3,x2.rows,nd3],t:=[s,x2.v3,x2.name,s3],b:=[bad,x2.v4,x2.a4,x2.a5,x2.b4,x2.b5,bad3],n:=[R,bk1,bk2]}) Z:=by
      intro Z below x2 s3 nd3 bad3 j4i;refine yd [1,1,1,1,1,1,1] Oz zm2 [] ⟨18,4,7,0,3,0⟩ (.call 161 [.ptr 0 0,.txt (.tl [59])] [.blk 0 [vT 3,vI 17,vB 6] 213] (.tup []) [.blk 0 [vT 4,vI 18,vB 7] 213] ⟨19,5,8,0,3,0⟩<|.swap [] [.asr 0] ⟨19,5,8,0,3,1⟩<|.stop [0,1,0,1,1,1,1,1,1,1,1] [(0,.ptr 0 0),(1,vI 0),(4,.ptr 1 0),(5,.ptr 2 0),(7,vI 2),(8,Fd)] [.asr 0,.blk 0 [vT 4,vI 18,vB 7] 213,.blk 2 (nX 3 1 1 (.lit mt)) 85,.blk 1 TU 85]) 100000 bm (λ_ h=>by cases h) ?_;refine dc2 (λ(s25:bn) (bad25:Bool)=>{i:=[nd3],t:=[s25],b:=[bad25]}) _ (λ_ _=>wl Γ R ([59]:bn) s3 nd3 bad3 Km0) λZ s25 bad25 qd5=>?_;refine dsU {a:=[nlA (Γ) (oneS (.lit mt)) []]} (λl h hs=>Bz (hs) (l:=l) (h:=h)) ?_;exact bu (LZ Γ R dp s nd bad T hs0 hd hn hT IHtreereadernode_runs bk1 bk2 below x2 s3 nd3 bad3 s25 bad25 _ _ 0 (.lit mt) s25 nd3 bad25 ([]) Km0 (aq _)) (by first|rfl|(simp only[ax,aY,XV.sv,va,Va.ext,fN,List.getD,ei];rfl)) (by first|rfl|(simp only[ei];rfl))
     refine bo ((bAt s 0)=79) rfl (λcd5=>?_) λcd5=>?_
     .refine dc8 (λ(c07:Int) (c17:Int) (c27:Int) (c37:Int) (c47:Bool) (c57:Bool) (s27:bn) (bad27:Bool)=>{i:=[c07,c17,c27,c37,(nd+1)],t:=[s27],b:=[c47,c57,bad27]}) _ (λ_ _=>Ii Γ R (bZ s 1) (nd+1) bad Km0) λZ c07 c17 c27 c37 c47 c57 s27 bad27 qd7=>?_;refine bo ((bAt s 0)=80) rfl (λcd6=>?_) λcd6=>?_
      .exact bu (j4 _ 0 (ND.mk 3 0 0 0 ([]:bn) false 0 ([]:bn) c07 c17 c27 c37 c47 c57 0 0 0 0 false false 0) s27 (nd+1) bad27 Km0) rfl rfl
      .exact bu (j4 _ 0 (ND.mk 1 0 0 0 ([]:bn) false 0 ([]:bn) c07 c17 c27 c37 c47 c57 0 0 0 0 false false 0) s27 (nd+1) bad27 Km0) rfl rfl
     .refine bo ((bAt s 0)=80) rfl (λcd6=>?_) λcd6=>?_
      .refine dc8 (λ(c08:Int) (c18:Int) (c28:Int) (c38:Int) (c48:Bool) (c58:Bool) (s28:bn) (bad28:Bool)=>{i:=[c08,c18,c28,c38,(nd+1)],t:=[s28],b:=[c48,c58,bad28]}) _ (λ_ _=>Ii Γ R (bZ s 1) (nd+1) bad Km0) λZ c08 c18 c28 c38 c48 c58 s28 bad28 qd8=>?_;exact bu (j4 _ 0 (ND.mk 3 0 0 0 ([]:bn) false 0 ([]:bn) c08 c18 c28 c38 c48 c58 0 0 0 0 false false 0) s28 (nd+1) bad28 Km0) rfl rfl
      .refine bo ((bAt s 0)=82) rfl (λcd7=>?_) λcd7=>?_
       .refine dc8 (λ(c09:Int) (c19:Int) (c29:Int) (c39:Int) (c49:Bool) (c59:Bool) (s29:bn) (bad29:Bool)=>{i:=[c09,c19,c29,c39,(nd+1)],t:=[s29],b:=[c49,c59,bad29]}) _ (λ_ _=>Ii Γ R (bZ s 1) (nd+1) bad Km0) λZ c09 c19 c29 c39 c49 c59 s29 bad29 qd9=>?_;refine dc2 (λ(s210:bn) (bad210:Bool)=>{i:=[(nd+1)],t:=[s210],b:=[bad210]}) _ (λ_ _=>wl Γ R ([58]:bn) s29 (nd+1) bad29 Km0) λZ s210 bad210 qd10=>?_;refine dc8 (λ(c011:Int) (c111:Int) (c211:Int) (c311:Int) (c411:Bool) (c511:Bool) (s211:bn) (bad211:Bool)=>{i:=[c011,c111,c211,c311,(nd+1)],t:=[s211],b:=[c411,c511,bad211]}) _ (λ_ _=>Ii Γ R s210 (nd+1) bad210 Km0) λZ c011 c111 c211 c311 c411 c511 s211 bad211 qd11=>?_;exact bu (j4 _ 0 (ND.mk 2 0 0 0 ([]:bn) false 0 ([]:bn) c09 c19 c29 c39 c49 c59 c011 c111 c211 c311 c411 c511 0) s211 (nd+1) bad211 Km0) rfl rfl
       .refine bo ((bAt s 0)=67) rfl (λcd8=>?_) λcd8=>?_
        .refine dc3 (λ(x12:bn) (s212:bn) (bad212:Bool)=>{i:=[(nd+1)],t:=[x12,s212],b:=[bad212]}) _ (λ_ _=>M6 Γ R (bZ s 1) (nd+1) bad Km0) λZ x12 s212 bad212 qd12=>?_;refine dc2 (λ(s213:bn) (bad213:Bool)=>{i:=[(nd+1)],t:=[s213],b:=[bad213]}) _ (λ_ _=>wl Γ R ([44]:bn) s212 (nd+1) bad212 Km0) λZ s213 bad213 qd13=>?_;refine dc3 (λ(z14:Int) (s214:bn) (bad214:Bool)=>{i:=[z14,(nd+1)],t:=[s214],b:=[bad214]}) _ (λ_ _=>sA Γ R s213 (nd+1) bad213 Km0) λZ z14 s214 bad214 qd14=>?_;exact bu (j4 _ z14 (ND.mk 4 0 0 0 ([]:bn) false 0 x12 0 0 0 0 false false 0 0 0 0 false false 0) s214 (nd+1) bad214 Km0) rfl rfl
        .refine bo ((bAt s 0)=85) rfl (λcd9=>?_) λcd9=>?_
         .refine dc3 (λ(x15:bn) (s215:bn) (bad215:Bool)=>{i:=[(nd+1)],t:=[x15,s215],b:=[bad215]}) _ (λ_ _=>Pm Γ R (bZ s 1) (nd+1) bad Km0) λZ x15 s215 bad215 qd15=>?_;refine bo ((bAt s 0)=66) rfl (λcd10=>?_) λcd10=>?_
          .exact bu (j4 _ 2 (ND.mk 6 0 0 0 ([]:bn) false 0 x15 0 0 0 0 false false 0 0 0 0 false false 0) s215 (nd+1) bad215 Km0) rfl rfl
          .exact bu (j4 _ 1 (ND.mk 5 0 0 0 ([]:bn) false 0 x15 0 0 0 0 false false 0 0 0 0 false false 0) s215 (nd+1) bad215 Km0) rfl rfl
         .refine bo ((bAt s 0)=66) rfl (λcd10=>?_) λcd10=>?_
          .refine dc3 (λ(x16:bn) (s216:bn) (bad216:Bool)=>{i:=[(nd+1)],t:=[x16,s216],b:=[bad216]}) _ (λ_ _=>Pm Γ R (bZ s 1) (nd+1) bad Km0) λZ x16 s216 bad216 qd16=>?_;exact bu (j4 _ 2 (ND.mk 6 0 0 0 ([]:bn) false 0 x16 0 0 0 0 false false 0 0 0 0 false false 0) s216 (nd+1) bad216 Km0) rfl rfl
          .refine bo ((bAt s 0)=77) rfl (λcd11=>?_) λcd11=>?_
           .refine dc3 (λ(x17:bn) (s217:bn) (bad217:Bool)=>{i:=[(nd+1)],t:=[x17,s217],b:=[bad217]}) _ (λ_ _=>M6 Γ R (bZ s 1) (nd+1) bad Km0) λZ x17 s217 bad217 qd17=>?_;exact bu (j4 _ 0 (ND.mk 7 0 0 0 ([]:bn) false 0 x17 0 0 0 0 false false 0 0 0 0 false false 0) s217 (nd+1) bad217 Km0) rfl rfl
           .refine bo ((bAt s 0)=65) rfl (λcd12=>?_) λcd12=>?_
            .refine dc3 (λ(z18:Int) (s218:bn) (bad218:Bool)=>{i:=[z18,(nd+1)],t:=[s218],b:=[bad218]}) _ (λ_ _=>sA Γ R (bZ s 1) (nd+1) bad Km0) λZ z18 s218 bad218 qd18=>?_;refine dc2 (λ(s219:bn) (bad219:Bool)=>{i:=[(nd+1)],t:=[s219],b:=[bad219]}) _ (λ_ _=>wl Γ R ([44]:bn) s218 (nd+1) bad218 Km0) λZ s219 bad219 qd19=>?_;refine dc3 (λ(z20:Int) (s220:bn) (bad220:Bool)=>{i:=[z20,(nd+1)],t:=[s220],b:=[bad220]}) _ (λ_ _=>sA Γ R s219 (nd+1) bad219 Km0) λZ z20 s220 bad220 qd20=>?_;exact bu (j4 _ z20 (ND.mk 8 0 0 0 ([]:bn) false 0 ([]:bn) 0 0 0 0 false false 0 0 0 0 false false z18) s220 (nd+1) bad220 Km0) rfl rfl
            .refine bo ((bAt s 0)=88) rfl (λcd13=>?_) λcd13=>?_
             .exact bu (j4 _ 0 (ND.mk 9 0 0 0 ([]:bn) false 0 ([]:bn) 0 0 0 0 false false 0 0 0 0 false false 0) (bZ s 1) (nd+1) bad Km0) rfl rfl
             .refine dc8 (λ(k21:Int) (m21:Int) (e21:Int) (x21:bn) (tr21:Bool) (f21:Int) (s221:bn) (bad221:Bool)=>{i:=[k21,m21,e21,f21,(nd+1)],t:=[x21,s221],b:=[tr21,bad221]}) _ (λ_ _=>Tl Γ R (bAt s 0) (bZ s 1) (nd+1) bad Km0) λZ k21 m21 e21 x21 tr21 f21 s221 bad221 qd21=>?_;exact bu (j4 _ 0 (ND.mk 0 k21 m21 e21 x21 tr21 f21 ([]:bn) 0 0 0 0 false false 0 0 0 0 false false 0) s221 (nd+1) bad221 Km0) rfl rfl
theorem Qw:∀T:Nat,NG (T:Int)
 |0=>λΓ _ R dp s nd bad hs0 hd hn hT=>by omega
 |T+1=>λΓ _ R dp s nd bad hs0 hd hn hT Z0 h l hs=>Ti Γ R dp s nd bad (T:Int) hs0 hd hn bj (Qw T) hs
theorem Rv(R:Nat)(dp:Int)(s:bn)(nd:Int)(bad:Bool)(hs0:(s.length:Int)<=3100)(hd:1<=dp/\dp<=33)(hn:0<=nd/\nd+s.length<=10000)(hs:St Z0 (own R (.cells [sV s,iV nd,bV bad] 213)::l) h):RC Γ Z0 120 [.ptr R 0,iV dp] h (P3 Γ R dp s nd bad l):=by
 exact Qw (((s.length:Int)).toNat+1) Γ R dp s nd bad hs0 hd hn bj hs
theorem Kn0{P:Prop}(h:P:=by first|omega|(obtain⟨q1,q2,q3,q4,q5,q6,q7,q8⟩:=qd0;exact q7.a)|first|omega|(and_intros<;>intros<;>and_intros<;>first|omega|assumption|exact Bo|(obtain⟨q1,q2,q3,q4,q5,q6,q7,q8⟩:=qd0;have w2:=CP bad20;first|omega|exact q7.a|exact q7|exact q8)|exact gV|exact PN qd2 cd3 cd4|exact V1)):P:=h
theorem Kn1{P:Prop}(h:P:=by first|rfl|(show(.tuple [.agg [iV 0,iV 0,iV 0,iV 0,sV ([]:bn),bV false,iV 0,sV ([]:bn),iV 0,iV 0,iV 0,iV 0,bV false,bV false,iV 0,iV 0,iV 0,iV 0,bV false,bV false,iV 0,.lit mt],iV 6]:SV)=_;simp_all)):P:=h
structure DecI(s:bn)(t:Tr):Prop where
 c:checkB t=0
 t:codeT t=s
theorem Bo:OkT (Tr.mk ⟨0,0,0,0,[],false,0,[],0,0,0,0,false,false,0,0,0,0,false,false,0⟩ []):=EN (by refine⟨?_⟩;simp only[okND,aw];omega) vx
theorem PN{s c:bn}{T:Tr}{e:Int}(h:e=checkB T/\c=(if checkB T=0 then codeT T else[]))(h0:e=0)(hc:c=s):DecI s T:=by
 obtain⟨h1,h2⟩:=h;rw[bi (by rw[<-h1];exact h0)]at h2;exact⟨by rw[<-h1];exact h0,by rw[<-h2,hc]⟩
abbrev RN(Γ:Glob)(s:bn):TG:=λl Zq vq hq=>∃x:ND,∃K:SV,∃e:Int,∃ks:List Tr,((e=0\/e=6)/\(sizeL ks:Int)<=3101/\OkT (Tr.mk x ks)/\NilK K ks/\(e=0->DecI s (Tr.mk x ks)))/\vq=.tuple [.agg (ndL x (oneS K)),iV e]/\St Zq (br Γ (oneS K) ks::l) hq
theorem LH(s:bn)(hs0:(s.length:Int)<=3100)(hs:St Z0 (l) h):RC Γ Z0 73 [sV s] h (RN Γ s l):=by
 refine bL Tryz.f73 Tryz.func73 [vT 0] [] ⟨0,1,0,0,0,0⟩ (va {t:=[s]}) (.new<|.new<|.call 120 [.ptr 1 0,I (.z 1)] [.blk 1 [vT 0,Fd,TA] 213] (.agg TV) [.blk 1 [vT 3,vI 14,vB 5] 213,.asr 0] ⟨15,4,6,1,2,1⟩<|.new<|.fork (.bv 5) (.swap [] [.asr 1] ⟨15,4,6,1,3,2⟩<|.ret (.tup [.agg TU,Tz]) [.asr 1])<|.fork (.teq (.tv 3) (.tl [])) (.call 25 [.agg TV] [.asr 0] (.tup [vT 4,vI 15]) [.asr 1] ⟨16,5,6,1,3,2⟩<|.fork (.eq (.v 15) (.z 0)) (.fork (.teq (.tv 4) (.tv 0)) (.ret (.tup [.agg TV,Fd]) [.asr 1])<|.swap [] [.asr 2] ⟨16,5,6,1,3,3⟩<|.ret (.tup [.agg TU,Tz]) [.asr 2])<|.swap [] [.asr 2] ⟨16,5,6,1,3,3⟩<|.ret (.tup [.agg TU,Tz]) [.asr 2])<|.swap [] [.asr 1] ⟨15,4,6,1,3,2⟩<|.ret (.tup [.agg TU,Tz]) [.asr 1]) hs ?_;refine bA λbk0=>?_;refine bA λbk1=>?_;refine dc6 (λ(x0:ND) (K0:SV) (s20:bn) (nd20:Int) (bad20:Bool) (ks0:(List Tr))=>{i:=[x0.k,x0.v0,x0.v1,x0.v2,x0.v5,x0.a0,x0.a1,x0.a2,x0.a3,x0.b0,x0.b1,x0.b2,x0.b3,x0.rows,nd20],t:=[x0.v3,x0.name,s20],b:=[x0.v4,x0.a4,x0.a5,x0.b4,x0.b5,bad20],r:=[K0],a:=[br Γ (oneS K0) ks0]}) _ (λ_ _=>Rv Γ bk1 1 s 0 false Kn0 Kn0 Kn0) λZ x0 K0 s20 nd20 bad20 ks0 qd0=>?_;refine bA λbk2=>?_;refine bo (bad20=true) rfl (λcd1=>?_) λcd1=>?_
 .refine dsU {a:=[br Γ (oneS (.lit mt)) ([]:List Tr)]} (λl h hs=>cD (hs) (l:=l) (h:=h)) ?_;exact an λh hs=>⟨(ND.mk 0 0 0 0 ([]:bn) false 0 ([]:bn) 0 0 0 0 false false 0 0 0 0 false false 0),(.lit mt),6,([]:List Tr),Kn0,Kn1,hs⟩
 .refine bo (s20=([]:bn)) rfl (λcd2=>?_) λcd2=>?_
  .have zd2:=qN cd2;refine dc2 (λ(c2:bn) (e2:Int)=>{i:=[e2],t:=[c2],a:=[br Γ (oneS K0) ks0]}) _ (λ_ _=>JG Γ x0 K0 ks0 Kn0 Kn0) λZ c2 e2 qd2=>?_;refine bo (e2=0) rfl (λcd3=>?_) λcd3=>?_
   .refine bo (c2=s) rfl (λcd4=>?_) λcd4=>?_
    .exact an λh hs=>⟨x0,K0,0,ks0,Kn0,rfl,hs⟩
    .refine dsU {a:=[br Γ (oneS (.lit mt)) ([]:List Tr)]} (λl h hs=>cD (hs) (l:=l) (h:=h)) ?_;exact an λh hs=>⟨(ND.mk 0 0 0 0 ([]:bn) false 0 ([]:bn) 0 0 0 0 false false 0 0 0 0 false false 0),(.lit mt),6,([]:List Tr),Kn0,Kn1,hs⟩
   .refine dsU {a:=[br Γ (oneS (.lit mt)) ([]:List Tr)]} (λl h hs=>cD (hs) (l:=l) (h:=h)) ?_;exact an λh hs=>⟨(ND.mk 0 0 0 0 ([]:bn) false 0 ([]:bn) 0 0 0 0 false false 0 0 0 0 false false 0),(.lit mt),6,([]:List Tr),Kn0,Kn1,hs⟩
  .have zd2:=qE cd2;refine dsU {a:=[br Γ (oneS (.lit mt)) ([]:List Tr)]} (λl h hs=>cD (hs) (l:=l) (h:=h)) ?_;exact an λh hs=>⟨(ND.mk 0 0 0 0 ([]:bn) false 0 ([]:bn) 0 0 0 0 false false 0 0 0 0 false false 0),(.lit mt),6,([]:List Tr),Kn0,Kn1,hs⟩
abbrev zo0:List MI:=[.blk 0 (nX 0 0 0 (.raw 0)) 85,.blk 1 (nX 14 2 5 (.lit mt)) 85,.asr 0]
abbrev zo2:List XV:=(nX 5 1 1 (.raw 0))
abbrev zo3:List XV:=[vI 1,vI 2,vI 3,vT 0,vB 0,vI 4]
theorem Ko2{P:Prop}(h:P:=by first|rfl|(show(bV false:SV)=_;clear hs;simp[dI,zeroV,nd0, *];done)|(show(bV false:SV)=_;clear hs;simp_all[dI,zeroV,nd0];done)):P:=h
theorem Ko3{P:Prop}(h:P:=by first|omega|exact hz bj|first|omega|(and_intros<;>intros<;>and_intros<;>first|omega|assumption|exact V1)):P:=h
theorem Ko4{P:Prop}(h:P:=by first|rfl|(show(bV false:SV)=_;clear hs;simp[*];done)|(show(bV false:SV)=_;clear hs;simp_all;done)):P:=h
abbrev SL(Γ:Glob)(A B:Nat)(x:ND)(K:SV)(y:ND):TG:=λl Zq vq hq=>(True)/\vq=bV (dl x y 0 0)/\St Zq (own A (.cells (ndL x (oneS K)) 85)::own B (.cells (ndL y (.lit mt)) 85)::br Γ (oneS K) ([]:List Tr)::l) hq
theorem RQ(A B:Nat)(x:ND)(K:SV)(y:ND)(hs:St Z0 (own A (.cells (ndL x (oneS K)) 85)::own B (.cells (ndL y (.lit mt)) 85)::br Γ (oneS K) ([]:List Tr)::l) h):RC Γ Z0 133 [.ptr A 0,.ptr B 0] h (SL Γ A B x K y l):=by
 refine bL Tryz.f133 Tryz.func133 [.ptr 0 0,.ptr 1 0] zo0 ⟨28,4,10,1,2,1⟩ (va {i:=[x.k,x.v0,x.v1,x.v2,x.v5,x.a0,x.a1,x.a2,x.a3,x.b0,x.b1,x.b2,x.b3,x.rows,y.k,y.v0,y.v1,y.v2,y.v5,y.a0,y.a1,y.a2,y.a3,y.b0,y.b1,y.b2,y.b3,y.rows],t:=[x.v3,x.name,y.v3,y.name],b:=[x.v4,x.a4,x.a5,x.b4,x.b5,y.v4,y.a4,y.a5,y.b4,y.b5],r:=[K],n:=[A,B],a:=[br Γ (oneS K) ([]:List Tr)]}) (.fork (.eq (.v 0) (.v 14)) (.fork (.and (.eq (.v 1) (.v 15)) (.and (.and (.eq (.v 2) (.v 16)) (.eq (.v 3) (.v 17))) (.and (.teq (.tv 0) (.tv 2)) (.and (.beq (.bv 0) (.bv 5)) (.eq (.v 4) (.v 18)))))) (.fork (.teq (.tv 1) (.tv 3)) (.fork (.and (.and (.and (.eq (.v 5) (.v 19)) (.eq (.v 6) (.v 20))) (.and (.and (.eq (.v 7) (.v 21)) (.eq (.v 8) (.v 22))) (.and (.beq (.bv 1) (.bv 6)) (.beq (.bv 2) (.bv 7))))) (.and (.and (.eq (.v 9) (.v 23)) (.eq (.v 10) (.v 24))) (.and (.and (.eq (.v 11) (.v 25)) (.eq (.v 12) (.v 26))) (.and (.beq (.bv 3) (.bv 8)) (.beq (.bv 4) (.bv 9)))))) (.fork (.eq (.v 13) (.v 27)) (.row (.len 83 (.raw 0)) [.asr 0] (Fd) ⟨28,4,10,1,2,1⟩<|.ret (TB) zo0)<|.ret (TA) zo0)<|.ret (TA) zo0)<|.ret (TA) zo0)<|.ret (TA) zo0)<|.ret (TA) zo0) hs ?_;refine bo (x.k=y.k) rfl (λcd1=>?_) λcd1=>?_
 .refine bo ((x.v0=y.v0)/\(((x.v1=y.v1)/\(x.v2=y.v2))/\((x.v3=y.v3)/\((x.v4=y.v4)/\(x.v5=y.v5))))) rfl (λcd2=>?_) λcd2=>?_
  .refine bo (x.name=y.name) rfl (λcd3=>?_) λcd3=>?_
   .refine bo ((((x.a0=y.a0)/\(x.a1=y.a1))/\(((x.a2=y.a2)/\(x.a3=y.a3))/\((x.a4=y.a4)/\(x.a5=y.a5))))/\(((x.b0=y.b0)/\(x.b1=y.b1))/\(((x.b2=y.b2)/\(x.b3=y.b3))/\((x.b4=y.b4)/\(x.b5=y.b5))))) rfl (λcd4=>?_) λcd4=>?_
    .refine bo (x.rows=y.rows) rfl (λcd5=>?_) λcd5=>?_
     .refine drT {} (λl h hs=>wU (m:=l) (h:=h) hs) ?_;exact an λh hs=>⟨TH,by first|rfl|(show(bV true:SV)=_;clear hs;simp[dl, *];done)|(show(bV true:SV)=_;clear hs;simp_all[dl];done),hs⟩
     .exact an λh hs=>⟨TH,TN,hs⟩
    .exact an λh hs=>⟨TH,TN,hs⟩
   .exact an λh hs=>⟨TH,TN,hs⟩
  .exact an λh hs=>⟨TH,TN,hs⟩
 .exact an λh hs=>⟨TH,TN,hs⟩
abbrev SZ(Γ:Glob)(x:ND)(K:SV)(y:ND):TG:=λl Zq vq hq=>(True)/\vq=bV (dl x y 0 0)/\St Zq (br Γ (oneS K) ([]:List Tr)::l) hq
theorem OU(x:ND)(K:SV)(y:ND)(hs:St Z0 (br Γ (oneS K) ([]:List Tr)::l) h):RC Γ Z0 86 [.agg (ndL x (oneS K)),.agg (ndL y (.lit mt))] h (SZ Γ x K y l):=by
 refine bL Tryz.f86 Tryz.func86 [.agg (nX 0 0 0 (.raw 0)),.agg (nX 14 2 5 (.lit mt))] [.asr 0] ⟨28,4,10,1,0,1⟩ (va {i:=[x.k,x.v0,x.v1,x.v2,x.v5,x.a0,x.a1,x.a2,x.a3,x.b0,x.b1,x.b2,x.b3,x.rows,y.k,y.v0,y.v1,y.v2,y.v5,y.a0,y.a1,y.a2,y.a3,y.b0,y.b1,y.b2,y.b3,y.rows],t:=[x.v3,x.name,y.v3,y.name],b:=[x.v4,x.a4,x.a5,x.b4,x.b5,y.v4,y.a4,y.a5,y.b4,y.b5],r:=[K],a:=[br Γ (oneS K) ([]:List Tr)]}) (.new<|.new<|.new<|.new<|.row (.slc 230 (.slice 2 0 1 1) none (some (Fd))) [] (.slice 2 0 0 1) ⟨28,4,10,1,4,1⟩<|.call 133 [.ptr 0 0,.ptr 1 0] zo0 (vB 10) [.blk 0 (nX 28 4 11 (.raw 1)) 85,.blk 1 (nX 42 6 16 (.lit mt)) 85,.asr 1] ⟨56,8,21,2,4,2⟩<|.fork (.bv 10) (.row (.len 83 (.raw 1)) [.asr 1] (Fd) ⟨56,8,21,2,4,2⟩<|.ret (TB) [.asr 1])<|.ret (TA) [.asr 1]) hs ?_;refine bA λbk0=>?_;refine bA λbk1=>?_;refine bA λbk2=>?_;refine bA λbk3=>?_;refine iQ {} (λ_=>Jt (k:=0) rfl rfl rfl rfl) ?_;refine dcU {i:=[x.k,x.v0,x.v1,x.v2,x.v5,x.a0,x.a1,x.a2,x.a3,x.b0,x.b1,x.b2,x.b3,x.rows,y.k,y.v0,y.v1,y.v2,y.v5,y.a0,y.a1,y.a2,y.a3,y.b0,y.b1,y.b2,y.b3,y.rows],t:=[x.v3,x.name,y.v3,y.name],b:=[(dl x y 0 0),x.v4,x.a4,x.a5,x.b4,x.b5,y.v4,y.a4,y.a5,y.b4,y.b5],r:=[K],a:=[br Γ (oneS K) ([]:List Tr)]} (λ_ _=>RQ Γ bk0 bk1 x K y) λZ=>?_;refine bo ((dl x y 0 0)=true) rfl (λcd1=>?_) λcd1=>?_
 .refine drT {} (λl h hs=>wU (m:=l) (h:=h) hs) ?_;exact an λh hs=>⟨TH,by first|rfl|(show(bV true:SV)=_;simp_all),hs⟩
 .exact an λh hs=>⟨TH,by first|rfl|(show(bV false:SV)=_;simp_all),hs⟩
def nd1:ND:={nd0 with k:=8,rows:=1}
def Pa(vk m e:Int)(s:bn)(b0:Bool)(f:Int):ND:={nd0 with v0:=vk,v1:=m,v2:=e,v3:=s,v4:=b0,v5:=f}
def zeroV(vk m e:Int)(s:bn)(b0:Bool)(f:Int):Bool:=decide (vk=0)&&((decide (m=0)&&decide (e=0))&&(decide (s=[])&&((!b0)&&decide (f=0))))
def dI(k vk m e:Int)(s:bn)(b0:Bool)(f:Int)(x:ND)(ks:List Tr):Bool:=
 if k=0 then(decide (k=0)&&(jA vk m e s b0 f 0 0 0 [] false 0&&dl x nd0 0 0))
 else if k=1 then(dl x nd0 0 0&&(decide (vk≠0)&&ey vk m e s b0 f))
 else if k=2 then(zeroV vk m e s b0 f&&decide (checkB (Tr.mk x ks)=0))
 else false
abbrev R3(Γ:Glob)(k vk:Int)(m e:Int)(s:bn)(b0:Bool)(f:Int)(x:ND)(K:SV)(k2 wk:Int)(wm we:Int)(ws:bn)(wb:Bool)(wf:Int)(y:ND):TG:=λl Zq vq hq=>(True)/\vq=bV (decide (k=k2)&&(jA vk m e s b0 f wk wm we ws wb wf&&dl x y 0 0))/\St Zq (br Γ (oneS K) ([]:List Tr)::l) hq
theorem RG(k vk:Int)(m e:Int)(s:bn)(b0:Bool)(f:Int)(x:ND)(K:SV)(k2 wk:Int)(wm we:Int)(ws:bn)(wb:Bool)(wf:Int)(y:ND)(hs:St Z0 (br Γ (oneS K) ([]:List Tr)::l) h):RC Γ Z0 85 [.agg [iV k,iV vk,iV m,iV e,sV s,bV b0,iV f,iV x.k,iV x.v0,iV x.v1,iV x.v2,sV x.v3,bV x.v4,iV x.v5,sV x.name,iV x.a0,iV x.a1,iV x.a2,iV x.a3,bV x.a4,bV x.a5,iV x.b0,iV x.b1,iV x.b2,iV x.b3,bV x.b4,bV x.b5,iV x.rows,(oneS K)],.agg [iV k2,iV wk,iV wm,iV we,sV ws,bV wb,iV wf,iV y.k,iV y.v0,iV y.v1,iV y.v2,sV y.v3,bV y.v4,iV y.v5,sV y.name,iV y.a0,iV y.a1,iV y.a2,iV y.a3,bV y.a4,bV y.a5,iV y.b0,iV y.b1,iV y.b2,iV y.b3,bV y.b4,bV y.b5,iV y.rows,.lit mt]] h (R3 Γ k vk m e s b0 f x K k2 wk wm we ws wb wf y l):=by
 refine bL Tryz.f85 Tryz.func85 [.agg TW,.agg [vI 19,vI 20,vI 21,vI 22,vT 3,vB 6,vI 23,vI 24,vI 25,vI 26,vI 27,vT 4,vB 7,vI 28,vT 5,vI 29,vI 30,vI 31,vI 32,vB 8,vB 9,vI 33,vI 34,vI 35,vI 36,vB 10,vB 11,vI 37,.lit mt]] [.asr 0] ⟨38,6,12,1,0,1⟩ (va {i:=[k,vk,m,e,f,x.k,x.v0,x.v1,x.v2,x.v5,x.a0,x.a1,x.a2,x.a3,x.b0,x.b1,x.b2,x.b3,x.rows,k2,wk,wm,we,wf,y.k,y.v0,y.v1,y.v2,y.v5,y.a0,y.a1,y.a2,y.a3,y.b0,y.b1,y.b2,y.b3,y.rows],t:=[s,x.v3,x.name,ws,y.v3,y.name],b:=[b0,x.v4,x.a4,x.a5,x.b4,x.b5,wb,y.v4,y.a4,y.a5,y.b4,y.b5],r:=[K],a:=[br Γ (oneS K) ([]:List Tr)]}) (.new<|.new<|.fork (.eq (.v 0) (.v 19)) (.call 132 [.agg zo3,.agg [vI 20,vI 21,vI 22,vT 3,vB 6,vI 23]] [] (vB 12) [] ⟨38,6,13,1,2,1⟩<|.fork (.bv 12) (.call 86 [.agg zo2,.agg (nX 24 4 7 (.lit mt))] [.asr 0] (vB 13) [.asr 1] ⟨38,6,14,1,2,2⟩<|.ret (vB 13) [.asr 1])<|.ret (TA) [.asr 0])<|.ret (TA) [.asr 0]) hs ?_;refine bA λbk0=>?_;refine bA λbk1=>?_;refine bo (k=k2) rfl (λcd1=>?_) λcd1=>?_
 .refine cU {b:=[(jA vk m e s b0 f wk wm we ws wb wf)]} (λl h hs=>Sb Γ vk m e s b0 f wk wm we ws wb wf hs) ?_;refine bo ((jA vk m e s b0 f wk wm we ws wb wf)=true) rfl (λcd2=>?_) λcd2=>?_
  .refine dcU {b:=[(dl x y 0 0)],a:=[br Γ (oneS K) ([]:List Tr)]} (λ_ _=>OU Γ x K y) λZ=>?_;exact an λh hs=>⟨TH,by first|rfl|(show(bV (dl x y 0 0):SV)=_;clear hs;simp[*];done)|(show(bV (dl x y 0 0):SV)=_;clear hs;simp_all;done),hs⟩
  .exact an λh hs=>⟨TH,Ko4,hs⟩
 .exact an λh hs=>⟨TH,Ko4,hs⟩
abbrev Rt(Γ:Glob)(k vk:Int)(m e:Int)(s:bn)(b0:Bool)(f:Int)(x:ND)(K:SV)(ks:List Tr):TG:=λl Zq vq hq=>(True)/\vq=bV (dI k vk m e s b0 f x ks)/\St Zq (br Γ (oneS K) ks::l) hq
theorem MS(k vk:Int)(m e:Int)(s:bn)(b0:Bool)(f:Int)(x:ND)(K:SV)(ks:List Tr)(hz:k≠2->ks=[])(hk:(sizeL ks:Int)<=1800000)(hs:St Z0 (br Γ (oneS K) ks::l) h):RC Γ Z0 50 [.agg [iV k,iV vk,iV m,iV e,sV s,bV b0,iV f,iV x.k,iV x.v0,iV x.v1,iV x.v2,sV x.v3,bV x.v4,iV x.v5,sV x.name,iV x.a0,iV x.a1,iV x.a2,iV x.a3,bV x.a4,bV x.a5,iV x.b0,iV x.b1,iV x.b2,iV x.b3,bV x.b4,bV x.b5,iV x.rows,(oneS K)]] h (Rt Γ k vk m e s b0 f x K ks l):=by
 refine bL Tryz.f50 Tryz.func50 [.agg TW] [.asr 0] ⟨19,3,6,1,0,1⟩ (va {i:=[k,vk,m,e,f,x.k,x.v0,x.v1,x.v2,x.v5,x.a0,x.a1,x.a2,x.a3,x.b0,x.b1,x.b2,x.b3,x.rows],t:=[s,x.v3,x.name],b:=[b0,x.v4,x.a4,x.a5,x.b4,x.b5],r:=[K],a:=[br Γ (oneS K) ks]}) (.new<|.fork (.eq (.v 0) (.z 0)) (.swap [.asr 0] [.asr 1,.asr 2] ⟨19,3,6,1,1,3⟩<|.call 85 [.agg TW,.agg [Fd,Fd,Fd,Fd,.txt (.tl []),TA,Fd,Fd,Fd,Fd,Fd,.txt (.tl []),TA,Fd,.txt (.tl []),Fd,Fd,Fd,Fd,TA,TA,Fd,Fd,Fd,Fd,TA,TA,Fd,.lit mt]] [.asr 1] (vB 6) [.asr 3] ⟨19,3,7,1,1,4⟩<|.ret (vB 6) [.asr 2])<|.fork (.eq (.v 0) (.z 1)) (.swap [.asr 0] [.asr 1,.asr 2] ⟨19,3,6,1,1,3⟩<|.call 86 [.agg zo2,.agg [Fd,Fd,Fd,Fd,.txt (.tl []),TA,Fd,.txt (.tl []),Fd,Fd,Fd,Fd,TA,TA,Fd,Fd,Fd,Fd,TA,TA,Fd,.lit mt]] [.asr 1] (vB 6) [.asr 3] ⟨19,3,7,1,1,4⟩<|.fork (.bv 6) (.fork (.eq (.v 1) (.z 0)) (.ret (TA) [.asr 2])<|.call 87 [.agg zo3] [] (vB 7) [] ⟨19,3,8,1,1,4⟩<|.ret (vB 7) [.asr 2])<|.ret (TA) [.asr 2])<|.fork (.eq (.v 0) (.z 2)) (.fork (.and (.eq (.v 1) (.z 0)) (.and (.and (.eq (.v 2) (.z 0)) (.eq (.v 3) (.z 0))) (.and (.teq (.tv 0) (.tl [])) (.and (.not (.bv 0)) (.eq (.v 4) (.z 0)))))) (.call 57 [.agg zo2] [.asr 0] (vI 19) [.asr 1] ⟨20,3,6,1,1,2⟩<|.ret (.bool (.eq (.v 19) (.z 0))) [.asr 1])<|.ret (TA) [.asr 0])<|.ret (TA) [.asr 0]) hs ?_;refine bA λbk0=>?_;refine bo (k=0) rfl (λcd1=>?_) λcd1=>?_
 .refine dsU {a:=[br Γ (oneS K) ([]:List Tr),br Γ (oneS K) ks]} (λl h hs=>GZ Ko3 (hs) (m:=l) (h:=h)) ?_;refine dcU {b:=[(decide (k=0)&&(jA vk m e s b0 f 0 0 0 ([]:bn) false 0&&dl x (ND.mk 0 0 0 0 ([]:bn) false 0 ([]:bn) 0 0 0 0 false false 0 0 0 0 false false 0) 0 0))],a:=[br Γ (oneS K) ([]:List Tr)]} (λ_ _=>RG Γ k vk m e s b0 f x K 0 0 0 0 ([]:bn) false 0 (ND.mk 0 0 0 0 ([]:bn) false 0 ([]:bn) 0 0 0 0 false false 0 0 0 0 false false 0)) λZ=>?_;exact an λh hs=>⟨TH,by first|rfl|(show(bV (decide (k=0)&&(jA vk m e s b0 f 0 0 0 ([]:bn) false 0&&dl x (ND.mk 0 0 0 0 ([]:bn) false 0 ([]:bn) 0 0 0 0 false false 0 0 0 0 false false 0) 0 0)):SV)=_;clear hs;simp[dI,zeroV,nd0, *];done)|(show(bV (decide (k=0)&&(jA vk m e s b0 f 0 0 0 ([]:bn) false 0&&dl x (ND.mk 0 0 0 0 ([]:bn) false 0 ([]:bn) 0 0 0 0 false false 0 0 0 0 false false 0) 0 0)):SV)=_;clear hs;simp_all[dI,zeroV,nd0];done),hs⟩
 .refine bo (k=1) rfl (λcd2=>?_) λcd2=>?_
  .refine dsU {a:=[br Γ (oneS K) ([]:List Tr),br Γ (oneS K) ks]} (λl h hs=>GZ Ko3 (hs) (m:=l) (h:=h)) ?_;refine dcU {b:=[(dl x (ND.mk 0 0 0 0 ([]:bn) false 0 ([]:bn) 0 0 0 0 false false 0 0 0 0 false false 0) 0 0)],a:=[br Γ (oneS K) ([]:List Tr)]} (λ_ _=>OU Γ x K (ND.mk 0 0 0 0 ([]:bn) false 0 ([]:bn) 0 0 0 0 false false 0 0 0 0 false false 0)) λZ=>?_;refine bo ((dl x (ND.mk 0 0 0 0 ([]:bn) false 0 ([]:bn) 0 0 0 0 false false 0 0 0 0 false false 0) 0 0)=true) rfl (λcd3=>?_) λcd3=>?_
   .refine bo (vk=0) rfl (λcd4=>?_) λcd4=>?_
    .exact an λh hs=>⟨TH,Ko2,hs⟩
    .refine cU {b:=[(ey vk m e s b0 f)]} (λl h hs=>OH Γ vk m e s b0 f hs) ?_;exact an λh hs=>⟨TH,by first|rfl|(show(bV (ey vk m e s b0 f):SV)=_;clear hs;simp[dI,zeroV,nd0, *];done)|(show(bV (ey vk m e s b0 f):SV)=_;clear hs;simp_all[dI,zeroV,nd0];done),hs⟩
   .exact an λh hs=>⟨TH,Ko2,hs⟩
  .refine bo (k=2) rfl (λcd3=>?_) λcd3=>?_
   .refine bo ((vk=0)/\(((m=0)/\(e=0))/\((s=([]:bn))/\((¬(b0=true))/\(f=0))))) rfl (λcd4=>?_) λcd4=>?_
    .refine bS (λ(e6:Int)=>{i:=[e6],a:=[br Γ (oneS K) ks]}) _ (λ_ _=>Ij Γ x K ks Ko3) λZ e6 qd6=>?_;exact an λh hs=>⟨TH,by first|rfl|(show(bV (decide (e6=0)):SV)=_;clear hs;simp[dI,zeroV,nd0, *];done)|(show(bV (decide (e6=0)):SV)=_;clear hs;simp_all[dI,zeroV,nd0];done),hs⟩
    .exact an λh hs=>⟨TH,Ko2,hs⟩
   .exact an λh hs=>⟨TH,Ko2,hs⟩
theorem Kp0{P:Prop}(h:P:=by first|omega|(have w1:=HY qd3 (Bl bj bj);have w2:=kV c3 Kl;simp only[Kl]at w2;simp only[au,aw];omega)|(have w1:=HY qd5 ho;simp only[au,aw];omega)|exact hz|exact ho.a|exact(Bl bj bj).a|first|omega|(and_intros<;>intros<;>and_intros<;>first|omega|assumption|exact V1)):P:=h
theorem Kp1{P:Prop}(h:P:=by first|exact S5 cd1 cd2 qd3 cd3|exact Qe cd1 cd2 qd3 cd3|exact Si cd1 cd2 cd3 qd5 cd4|exact QQ cd1 cd2 cd3 qd5 cd4|exact SI cd1 cd2 cd3|exact N8 cd1):P:=h
theorem Kp2{P:Prop}(h:P:=by first|rfl|(show(.tuple [sV ([]:bn),iV 6]:SV)=_;simp_all)):P:=h
def Kl:bn:=[65,49,44,49,59]
def sC(vk m e:Int)(s:bn)(b0:Bool)(f:Int):Tr:=Tr.mk nd1 [Tr.mk (Pa vk m e s b0 f) []]
def codeC(k vk m e:Int)(s:bn)(b0:Bool)(f:Int)(x:ND)(ks:List Tr):bn×Int:=
 if dI k vk m e s b0 f x ks=true then
  (if k=1 then(if checkB (sC vk m e s b0 f)=0 then([86]++Go.Lib.trimPrefix (codeT (sC vk m e s b0 f)) Kl,0)else([],6))
  else if k=2 then(if checkB (Tr.mk x ks)=0 then([61]++codeT (Tr.mk x ks),0)else([],6))
  else([46],0))
 else([],6)
theorem Bl{vk m e:Int}{s:bn}{b0:Bool}{f:Int}(h: TF m (TF e (TE f)))(hs:(s.length:Int)<=3100):OkT (sC vk m e s b0 f):=by
 refine⟨⟨?_,⟨?_,trivial⟩,trivial⟩⟩
 .simp only[okND,nd1,nd0,aw];omega
 .simp only[okND,Pa,nd0,aw];omega
def few(n:Nat):Prop:=(n:Int)<=1900000
theorem vz{n k:Nat}(h:few n)(hk:k<=n):few k:=by unfold few at*;omega
theorem D4{c:Nat}(hc:c=3201){x:ND}{ks:List Tr}{n:Nat}(h:okND x)(hs:few ks.length)(h1:(nJ ks).length<=c*n):((dK x (ks.length:Int)++[59])++nJ ks).length<=c*(n+1):=by
 subst hc;unfold few at hs;have h3:=mJ x (ks.length:Int) h bj;rw[ac,ac,au,aw];omega
theorem u0{x:ND}{ks:List Tr}(h:okT (Tr.mk x ks)):okND x/\okL ks:=h
theorem vi{t:Tr}{l:List Tr}(h:okL (t::l)):okT t/\okL l:=h
mutual
theorem uv(c:Nat)(hc:c=3201):∀t:Tr,okT t->few t.size->(codeT t).length<=c*t.size
 | .mk x ks=>λh hs=>by
   have hk:few (sizeL ks):=vz hs (by rw[fa];exact Nat.le_succ _);have h1:=ug c hc ks (u0 h).2 hk;rw[codeT,fa];exact D4 hc (u0 h).1 (vz hk (gt ks)) h1
theorem ug(c:Nat)(hc:c=3201):∀ks:List Tr,okL ks->few (sizeL ks)->(nJ ks).length<=c*sizeL ks
 |[]=>λ_ _=>by simp[nJ]
 |t::l=>λh hs=>by
  have h1:=uv c hc t (vi h).1 (vz hs (by rw[iS];exact Nat.le_add_right _ _));have h2:=ug c hc l (vi h).2 (vz hs (by rw[iS];exact Nat.le_add_left _ _));rw[nJ,ac,iS,Nat.mul_add];exact Nat.add_le_add h1 h2
end
theorem HY{T:Tr}{c:bn}{er:Int}(q:er=checkB T/\c=(if checkB T=0 then codeT T else[]))(ho:OkT T):(c.length:Int)<=820000:=by
 obtain⟨_,q⟩:=q;by_cases h:checkB T=0
 .rw[bi h]at q;cases T with
  |mk x ks=>
   have h1:=s5 h;have h2:=uv 3201 rfl _ ho.a (by unfold few;rw[fa];omega);rw[fa]at h2;rw[q];omega
 .rw[bh h]at q;rw[q];simp
section
variable {k vk m e:Int}{s:bn}{b0:Bool}{f:Int}{x:ND}{ks:List Tr}{c:bn}{er:Int}
theorem S5(h1:dI k vk m e s b0 f x ks=true)(h2:k=1)(q:er=checkB (sC vk m e s b0 f)/\c=(if checkB (sC vk m e s b0 f)=0 then codeT (sC vk m e s b0 f)else[]))(h3:er=0):([86]++Go.Lib.trimPrefix c Kl,(0:Int))=codeC k vk m e s b0 f x ks:=by
 obtain⟨q1,q2⟩:=q;have q3:checkB (sC vk m e s b0 f)=0:=by rw[<-q1];exact h3
 rw[bi q3]at q2;rw[codeC,bi h1,bi h2,bi q3,q2]
theorem Qe(h1:dI k vk m e s b0 f x ks=true)(h2:k=1)(q:er=checkB (sC vk m e s b0 f)/\c=(if checkB (sC vk m e s b0 f)=0 then codeT (sC vk m e s b0 f)else[]))(h3:¬er=0):(([]:bn),(6:Int))=codeC k vk m e s b0 f x ks:=by
 rw[codeC,bi h1,bi h2,bh (by rw[<-q.1];exact h3)]
theorem Si(h1:dI k vk m e s b0 f x ks=true)(h0:¬k=1)(h2:k=2)(q:er=checkB (Tr.mk x ks)/\c=(if checkB (Tr.mk x ks)=0 then codeT (Tr.mk x ks)else[]))(h3:er=0):([61]++c,(0:Int))=codeC k vk m e s b0 f x ks:=by
 obtain⟨q1,q2⟩:=q;have q3:checkB (Tr.mk x ks)=0:=by rw[<-q1];exact h3
 rw[bi q3]at q2;rw[codeC,bi h1,bh h0,bi h2,bi q3,q2]
theorem QQ(h1:dI k vk m e s b0 f x ks=true)(h0:¬k=1)(h2:k=2)(q:er=checkB (Tr.mk x ks)/\c=(if checkB (Tr.mk x ks)=0 then codeT (Tr.mk x ks)else[]))(h3:¬er=0):(([]:bn),(6:Int))=codeC k vk m e s b0 f x ks:=by
 rw[codeC,bi h1,bh h0,bi h2,bh (by rw[<-q.1];exact h3)]
theorem SI(h1:dI k vk m e s b0 f x ks=true)(h0:¬k=1)(h2:¬k=2):(([46]:bn),(0:Int))=codeC k vk m e s b0 f x ks:=by rw[codeC,bi h1,bh h0,bh h2]
theorem N8(h1:¬dI k vk m e s b0 f x ks=true):(([]:bn),(6:Int))=codeC k vk m e s b0 f x ks:=by rw[codeC,bh h1]
end
abbrev Rs(Γ:Glob)(k vk:Int)(m e:Int)(s:bn)(b0:Bool)(f:Int)(x:ND)(K:SV)(ks:List Tr):TG:=λl Zq vq hq=>∃c:bn,∃er:Int,((c,er)=codeC k vk m e s b0 f x ks)/\vq=.tuple [sV c,iV er]/\St Zq (br Γ (oneS K) ks::l) hq
theorem Ri(k vk:Int)(m e:Int)(s:bn)(b0:Bool)(f:Int)(x:ND)(K:SV)(ks:List Tr)(hz:k≠2->ks=[])(hk:(sizeL ks:Int)<=1800000)(ho:OkT (Tr.mk x ks))(hv: TF m (TF e (TF f ((s.length:Int)<=3100))))(hs:St Z0 (br Γ (oneS K) ks::l) h):RC Γ Z0 22 [.agg [iV k,iV vk,iV m,iV e,sV s,bV b0,iV f,iV x.k,iV x.v0,iV x.v1,iV x.v2,sV x.v3,bV x.v4,iV x.v5,sV x.name,iV x.a0,iV x.a1,iV x.a2,iV x.a3,bV x.a4,bV x.a5,iV x.b0,iV x.b1,iV x.b2,iV x.b3,bV x.b4,bV x.b5,iV x.rows,(oneS K)]] h (Rs Γ k vk m e s b0 f x K ks l):=by
 refine bL Tryz.f22 Tryz.func22 [.agg TW] [.asr 0] ⟨19,3,6,1,0,1⟩ (va {i:=[k,vk,m,e,f,x.k,x.v0,x.v1,x.v2,x.v5,x.a0,x.a1,x.a2,x.a3,x.b0,x.b1,x.b2,x.b3,x.rows],t:=[s,x.v3,x.name],b:=[b0,x.v4,x.a4,x.a5,x.b4,x.b5],r:=[K],a:=[br Γ (oneS K) ks]}) (.new<|.call 50 [.agg TW] [.asr 0] (vB 6) [.asr 1] ⟨19,3,7,1,1,2⟩<|.fork (.bv 6) (.fork (.eq (.v 0) (.z 1)) (.new<|.new<|.swap [] [.asr 2] ⟨19,3,7,1,3,3⟩<|.swap [.blk 2 [Fd,vI 1,vI 2,vI 3,vT 0,vB 0,vI 4,.txt (.tl []),Fd,Fd,Fd,Fd,TA,TA,Fd,Fd,Fd,Fd,TA,TA,Fd,.lit mt] 85,.asr 2] [.asr 3] ⟨19,3,7,1,3,4⟩<|.call 25 [.agg [I (.z 8),Fd,Fd,Fd,.txt (.tl []),TA,Fd,.txt (.tl []),Fd,Fd,Fd,Fd,TA,TA,Fd,Fd,Fd,Fd,TA,TA,I (.z 1),.slice 2 0 1 1]] [.asr 3] (.tup [vT 3,vI 19]) [.asr 4] ⟨20,4,7,1,3,5⟩<|.fork (.eq (.v 19) (.z 0)) (.call 51 [vT 3,.txt (.tl [65,49,44,49,59])] [] (vT 4) [] ⟨20,5,7,1,3,5⟩<|.vc (.le (.add (.len (.tl [86])) (.len (.tv 4))) (.z 9223372036854775807))<|.ret (.tup [.txt (.cat (.tl [86]) (.tv 4)),Fd]) [.asr 1])<|.ret (.tup [.txt (.tl []),Tz]) [.asr 1])<|.fork (.eq (.v 0) (.z 2)) (.call 25 [.agg (nX 5 1 1 (.raw 0))] [.asr 1] (.tup [vT 3,vI 19]) [.asr 2] ⟨20,4,7,1,1,3⟩<|.fork (.eq (.v 19) (.z 0)) (.vc (.le (.add (.len (.tl [61])) (.len (.tv 3))) (.z 9223372036854775807))<|.ret (.tup [.txt (.cat (.tl [61]) (.tv 3)),Fd]) [.asr 2])<|.ret (.tup [.txt (.tl []),Tz]) [.asr 2])<|.ret (.tup [.txt (.tl [46]),Fd]) [.asr 1])<|.ret (.tup [.txt (.tl []),Tz]) [.asr 1]) hs ?_;refine bA λbk0=>?_;refine dcU {b:=[(dI k vk m e s b0 f x ks)],a:=[br Γ (oneS K) ks]} (λ_ _=>MS Γ k vk m e s b0 f x K ks Kp0 Kp0) λZ=>?_;refine bo ((dI k vk m e s b0 f x ks)=true) rfl (λcd1=>?_) λcd1=>?_
 .refine bo (k=1) rfl (λcd2=>?_) λcd2=>?_
  .refine bA λbk1=>?_;refine bA λbk2=>?_;refine dsU {a:=[br Γ (oneS (.lit mt)) ([]:List Tr)]} (λl h hs=>cD (hs) (l:=l) (h:=h)) ?_;refine jt (λ(_:Unit)=>{a:=[br Γ (.slice bk2 0 1 1) [Tr.mk ⟨0,vk,m,e,s,b0,f,([]:bn),0,0,0,0,false,false,0,0,0,0,false,false,0⟩ ([]:List Tr)]]}) (λ(_:Unit)=>True) (λl h hs=>G8 rfl (hs) (l:=l) (h:=h)) λZ _ _=>?_;refine dc2 (λ(c3:bn) (e3:Int)=>{i:=[e3],t:=[c3],a:=[br Γ (.slice bk2 0 1 1) ([Tr.mk ⟨0,vk,m,e,s,b0,f,([]:bn),0,0,0,0,false,false,0,0,0,0,false,false,0⟩ ([]:List Tr)])]}) _ (λl h hs=>(by have hr:=JG Γ (ND.mk 8 0 0 0 ([]:bn) false 0 ([]:bn) 0 0 0 0 false false 0 0 0 0 false false 1) (.slice bk2 0 1 1) ([Tr.mk ⟨0,vk,m,e,s,b0,f,([]:bn),0,0,0,0,false,false,0,0,0,0,false,false,0⟩ ([]:List Tr)]) Kp0 Kp0 (Z0:=Z) (l:=l) (h:=h) (by first|exact hs|(simp only[bN,bP];exact hs));first|exact hr|(simp only[RC,bN,bP]at hr;exact hr)|(simp only[RC,bN,bP,JK]at hr;exact hr))) λZ c3 e3 qd3=>?_;refine bo (e3=0) rfl (λcd3=>?_) λcd3=>?_
   .refine dcU {t:=[(Go.Lib.trimPrefix c3 ([65,49,44,49,59]:bn))]} (λ_ _=>w8r Γ c3 ([65,49,44,49,59]:bn)) λZ=>?_;refine bE (show((([86]:bn).length:Int)+((Go.Lib.trimPrefix c3 ([65,49,44,49,59]:bn)).length:Int))<=9223372036854775807 from Kp0) ?_;exact an λh hs=>⟨(([86]:bn)++(Go.Lib.trimPrefix c3 ([65,49,44,49,59]:bn))),0,Kp1,rfl,hs⟩
   .exact an λh hs=>⟨([]:bn),6,Kp1,Kp2,hs⟩
  .refine bo (k=2) rfl (λcd3=>?_) λcd3=>?_
   .refine dc2 (λ(c5:bn) (e5:Int)=>{i:=[e5],t:=[c5],a:=[br Γ (oneS K) ks]}) _ (λ_ _=>JG Γ x K ks Kp0 Kp0) λZ c5 e5 qd5=>?_;refine bo (e5=0) rfl (λcd4=>?_) λcd4=>?_
    .refine bE (show((([61]:bn).length:Int)+(c5.length:Int))<=9223372036854775807 from Kp0) ?_;exact an λh hs=>⟨(([61]:bn)++c5),0,Kp1,rfl,hs⟩
    .exact an λh hs=>⟨([]:bn),6,Kp1,Kp2,hs⟩
   .exact an λh hs=>⟨([46]:bn),0,Kp1,rfl,hs⟩
 .exact an λh hs=>⟨([]:bn),6,Kp1,Kp2,hs⟩
abbrev zq0:List XV:=[Fd,Fd,Fd,Fd,.txt (.tl []),TA,Fd,Fd,Fd,Fd,Fd,.txt (.tl []),TA,Fd,.txt (.tl []),Fd,Fd,Fd,Fd,TA,TA,Fd,Fd,Fd,Fd,TA,TA,Fd,.lit mt]
abbrev zq1:List XV:=[vI 0,vI 1,vI 2,vI 3,vT 1,vB 0,vI 4,vI 5,vI 6,vI 7,vI 8,vT 2,vB 1,vI 9,vT 3,vI 10,vI 11,vI 12,vI 13,vB 2,vB 3,vI 14,vI 15,vI 16,vI 17,vB 4,vB 5,vI 18,.raw 0]
theorem Kq0{P:Prop}(h:P:=by first|omega|(have w2:=kV s [86];simp only[ac,au,aw];omega)|(have w2:=kV s [61];omega)|first|omega|(and_intros<;>intros<;>and_intros<;>first|omega|assumption|exact KH|exact gV|(obtain⟨q1,q2,q3,q4,q5⟩:=qd2;have w3:=Fh q3 bj;unfold okND at w3;omega)|exact Om (by obtain⟨q1,q2,q3,q4,q5⟩:=qd14;exact q3)|exact gV|(obtain⟨q1,q2,q3,q4,q5⟩:=qd14;first|exact q4|omega)|exact V1)):P:=h
theorem Kq1{P:Prop}(h:P:=by first|omega|(obtain⟨q0,q1,q2,q3,q4,q5,q6,q7,q8,q9,q10⟩:=qd0;first|exact q9|exact q10|exact q9.z|exact q9.o|omega)|first|omega|(and_intros<;>intros<;>and_intros<;>first|omega|assumption|exact KH|exact gV|(obtain⟨q0,q1,q2,q3,q4,q5,q6,q7,q8,q9,q10⟩:=qd0;first|exact q9|exact q10|exact q9.z|exact q9.o|omega)|exact QV qd2 bj (by assumption)|exact V1)):P:=h
theorem Kq2{P:Prop}(h:P:=by first|rfl|(show(.tuple [.agg [iV 0,iV 0,iV 0,iV 0,sV ([]:bn),bV false,iV 0,iV 0,iV 0,iV 0,iV 0,sV ([]:bn),bV false,iV 0,sV ([]:bn),iV 0,iV 0,iV 0,iV 0,bV false,bV false,iV 0,iV 0,iV 0,iV 0,bV false,bV false,iV 0,.lit mt],bV false]:SV)=_;simp_all)):P:=h
theorem Kq3{P:Prop}(h:P:=by first|rfl|(show(.tuple [.agg [iV 0,iV 0,iV 0,iV 0,sV ([]:bn),bV false,iV 0,iV 0,iV 0,iV 0,iV 0,sV ([]:bn),bV false,iV 0,sV ([]:bn),iV 0,iV 0,iV 0,iV 0,bV false,bV false,iV 0,iV 0,iV 0,iV 0,bV false,bV false,iV 0,.lit mt],iV 6]:SV)=_;simp_all)):P:=h
theorem Fh{x:ND}{ks:List Tr}(h:OkT (Tr.mk x ks))(hn:0<(ks.length:Int)):okND (lget ks 0).nd:=by
 cases ks with
 |nil=>exact absurd hn (by simp)
 |cons t l=>
  cases t with
  |mk y js=>exact(u0 (vi (u0 h.a).2).1).1
structure ConI(k vk m e:Int)(s:bn)(b0:Bool)(f:Int)(x:ND)(ks:List Tr):Prop where
 z:k≠2->ks=[]
 o:OkT (Tr.mk x ks)
theorem KH{k vk m e f:Int}{s:bn}{b0:Bool}:ConI k vk m e s b0 f ⟨0,0,0,0,[],false,0,[],0,0,0,0,false,false,0,0,0,0,false,false,0⟩ []:=⟨λ_=>rfl,Bo⟩
theorem Om{vk m e f:Int}{s:bn}{b0:Bool}{x:ND}{ks:List Tr}(h:OkT (Tr.mk x ks)):ConI 2 vk m e s b0 f x ks:=⟨λh=>absurd rfl h,h⟩
abbrev Sp(Γ:Glob)(s:bn):TG:=λl Zq vq hq=>∃ck:Int,∃vk:Int,∃m:Int,∃e:Int,∃tx:bn,∃cb:Bool,∃f:Int,∃x:ND,∃K:SV,∃ok:Bool,∃ks:List Tr,((ck=0\/ck=1\/ck=2)/\(sizeL ks:Int)<=3200/\TF m (TF e (TF f ((tx.length:Int)<=3100/\ConI ck vk m e tx cb f x ks/\NilK K ks))))/\vq=.tuple [.agg [iV ck,iV vk,iV m,iV e,sV tx,bV cb,iV f,iV x.k,iV x.v0,iV x.v1,iV x.v2,sV x.v3,bV x.v4,iV x.v5,sV x.name,iV x.a0,iV x.a1,iV x.a2,iV x.a3,bV x.a4,bV x.a5,iV x.b0,iV x.b1,iV x.b2,iV x.b3,bV x.b4,bV x.b5,iV x.rows,(oneS K)],bV ok]/\St Zq (br Γ (oneS K) ks::l) hq
theorem SY(s:bn)(hs0:(s.length:Int)<=3090)(hs:St Z0 (l) h):RC Γ Z0 119 [sV s] h (Sp Γ s l):=by
 refine bL Tryz.f119 Tryz.func119 [vT 0] [] ⟨0,1,0,0,0,0⟩ (va {t:=[s]}) (.new<|.fork (.teq (.tv 0) (.tl [46])) (.swap [] [.asr 0] ⟨0,1,0,0,1,1⟩<|.ret (.tup [.agg zq0,TB]) [.asr 0])<|.call 61 [vT 0,.txt (.tl [86])] [] (.tup [vT 1,vB 0]) [] ⟨0,2,1,0,1,0⟩<|.fork (.bv 0) (.vc (.le (.add (.len (.tl [65,49,44,49,59])) (.len (.tv 1))) (.z 9223372036854775807))<|.call 73 [.txt (.cat (.tl [65,49,44,49,59]) (.tv 1))] [] (.tup [.agg (nX 0 2 1 (.raw 0)),vI 14]) [.asr 0] ⟨15,4,6,1,1,1⟩<|.new<|.fork (.eq (.v 14) (.z 0)) (.fork (.eq (.v 0) (.z 8)) (.row (.len 83 (.raw 0)) [.asr 0] (vI 15) ⟨16,4,6,1,2,1⟩<|.fork (.eq (.v 15) (.z 1)) (.row (.idxA 83 (.raw 0) (Fd)) [.asr 0] (.raw 1) ⟨16,4,6,2,2,1⟩<|.swap [] [.asr 1] ⟨16,4,6,2,2,2⟩<|.swap [.asr 1] [.asr 2] ⟨16,4,6,2,2,3⟩<|.win 1 (nX 16 4 6 (.raw 2)) ⟨30,6,11,3,2,3⟩<|.swap [] [.asr 3] ⟨30,6,11,3,2,4⟩<|.swap [] [.asr 4] ⟨30,6,11,3,2,5⟩<|.ret (.tup [.agg [I (.z 1),vI 17,vI 18,vI 19,vT 4,vB 6,vI 20,Fd,Fd,Fd,Fd,.txt (.tl []),TA,Fd,.txt (.tl []),Fd,Fd,Fd,Fd,TA,TA,Fd,Fd,Fd,Fd,TA,TA,Fd,.lit mt],TB]) [.asr 4])<|.swap [] [.asr 1] ⟨16,4,6,1,2,2⟩<|.ret (.tup [.agg zq0,TA]) [.asr 1])<|.swap [] [.asr 1] ⟨15,4,6,1,2,2⟩<|.ret (.tup [.agg zq0,TA]) [.asr 1])<|.swap [] [.asr 1] ⟨15,4,6,1,2,2⟩<|.ret (.tup [.agg zq0,TA]) [.asr 1])<|.call 61 [vT 0,.txt (.tl [61])] [] (.tup [vT 2,vB 1]) [] ⟨0,3,2,0,1,0⟩<|.fork (.bv 1) (.call 73 [vT 2] [] (.tup [.agg (nX 0 3 2 (.raw 0)),vI 14]) [.asr 0] ⟨15,5,7,1,1,1⟩<|.new<|.ret (.tup [.agg [I (.z 2),Fd,Fd,Fd,.txt (.tl []),TA,Fd,vI 0,vI 1,vI 2,vI 3,vT 3,vB 2,vI 4,vT 4,vI 5,vI 6,vI 7,vI 8,vB 3,vB 4,vI 9,vI 10,vI 11,vI 12,vB 5,vB 6,vI 13,.raw 0],.bool (.eq (.v 14) (.z 0))]) [.asr 0])<|.swap [] [.asr 0] ⟨0,3,2,0,1,1⟩<|.ret (.tup [.agg zq0,TA]) [.asr 0]) hs ?_;refine bA λbk0=>?_;refine bo (s=([46]:bn)) rfl (λcd1=>?_) λcd1=>?_
 .refine dsU {a:=[br Γ (oneS (.lit mt)) ([]:List Tr)]} (λl h hs=>cD (hs) (l:=l) (h:=h)) ?_;exact an λh hs=>⟨0,0,0,0,([]:bn),false,0,(ND.mk 0 0 0 0 ([]:bn) false 0 ([]:bn) 0 0 0 0 false false 0 0 0 0 false false 0),(.lit mt),true,([]:List Tr),Kq0,rfl,hs⟩
 .refine dcU {t:=[(Go.Lib.trimPrefix s ([86]:bn))],b:=[(Go.Lib.hasPrefix s ([86]:bn))]} (λ_ _=>w7r Γ s ([86]:bn)) λZ=>?_;refine bo ((Go.Lib.hasPrefix s ([86]:bn))=true) rfl (λcd2=>?_) λcd2=>?_
  .refine bE (show((([65,49,44,49,59]:bn).length:Int)+((Go.Lib.trimPrefix s ([86]:bn)).length:Int))<=9223372036854775807 from Kq0) ?_;refine dc4 (λ(x2:ND) (K2:SV) (e2:Int) (ks2:(List Tr))=>{i:=[x2.k,x2.v0,x2.v1,x2.v2,x2.v5,x2.a0,x2.a1,x2.a2,x2.a3,x2.b0,x2.b1,x2.b2,x2.b3,x2.rows,e2],t:=[x2.v3,x2.name],b:=[x2.v4,x2.a4,x2.a5,x2.b4,x2.b5],r:=[K2],a:=[br Γ (oneS K2) ks2]}) _ (λ_ _=>LH Γ (([65,49,44,49,59]:bn)++(Go.Lib.trimPrefix s ([86]:bn))) Kq0) λZ x2 K2 e2 ks2 qd2=>?_;refine bA λbk1=>?_;refine bo (e2=0) rfl (λcd3=>?_) λcd3=>?_
   .refine bo (x2.k=8) rfl (λcd4=>?_) λcd4=>?_
    .refine dD {i:=[(ks2.length:Int)]} _ (λl h hs=>dN (m:=l) (h:=h) hs) λkl3=>?_;refine bo ((ks2.length:Int)=1) rfl (λcd5=>?_) λcd5=>?_
     .refine dD {r:=[(bR (oneS K2) 0)]} _ (λl h hs=>fC (m:=l) (h:=h) (i:=0) Kq0 Kq0 hs) λkd4=>?_;have kz4:=kd4.2;refine dsU {a:=[bB Γ (oneS (bR (oneS K2) 0)) (lget ks2 0)]} (λl h hs=>eE kd4.1 (hs) (m:=l) (h:=h)) ?_;refine bQ (α:=Unit) (λ(_:Unit)=>{a:=[bB Γ (oneS (bR (oneS K2) 0)) (lget ks2 0)]}) (λ(_:Unit)=>TreeAt Γ Z (oneS (bR (oneS K2) 0)) (lget ks2 0)) (λl h hs=>⟨(),cN (hs) (m:=l) (h:=h)⟩) λ_ qs7=>?_;obtain⟨L6,wu6,ku6⟩:=dc qs7;refine fk (TD ((lget ks2 0).nd) L6) wu6 ?_;refine dsU {a:=[br Γ (oneS L6) ((lget ks2 0).kids)]} (λl h hs=>co ku6 (hs) (m:=l) (h:=h)) ?_;refine dsU {a:=[br Γ (oneS (.lit mt)) ([]:List Tr)]} (λl h hs=>cD (hs) (l:=l) (h:=h)) ?_;exact an λh hs=>⟨1,((lget ks2 0).nd.v0),((lget ks2 0).nd.v1),((lget ks2 0).nd.v2),((lget ks2 0).nd.v3),((lget ks2 0).nd.v4),((lget ks2 0).nd.v5),(ND.mk 0 0 0 0 ([]:bn) false 0 ([]:bn) 0 0 0 0 false false 0 0 0 0 false false 0),(.lit mt),true,([]:List Tr),Kq0,rfl,hs⟩
     .refine dsU {a:=[br Γ (oneS (.lit mt)) ([]:List Tr)]} (λl h hs=>cD (hs) (l:=l) (h:=h)) ?_;exact an λh hs=>⟨0,0,0,0,([]:bn),false,0,(ND.mk 0 0 0 0 ([]:bn) false 0 ([]:bn) 0 0 0 0 false false 0 0 0 0 false false 0),(.lit mt),false,([]:List Tr),Kq0,Kq2,hs⟩
    .refine dsU {a:=[br Γ (oneS (.lit mt)) ([]:List Tr)]} (λl h hs=>cD (hs) (l:=l) (h:=h)) ?_;exact an λh hs=>⟨0,0,0,0,([]:bn),false,0,(ND.mk 0 0 0 0 ([]:bn) false 0 ([]:bn) 0 0 0 0 false false 0 0 0 0 false false 0),(.lit mt),false,([]:List Tr),Kq0,Kq2,hs⟩
   .refine dsU {a:=[br Γ (oneS (.lit mt)) ([]:List Tr)]} (λl h hs=>cD (hs) (l:=l) (h:=h)) ?_;exact an λh hs=>⟨0,0,0,0,([]:bn),false,0,(ND.mk 0 0 0 0 ([]:bn) false 0 ([]:bn) 0 0 0 0 false false 0 0 0 0 false false 0),(.lit mt),false,([]:List Tr),Kq0,Kq2,hs⟩
  .refine dcU {t:=[(Go.Lib.trimPrefix s ([61]:bn))],b:=[(Go.Lib.hasPrefix s ([61]:bn))]} (λ_ _=>w7r Γ s ([61]:bn)) λZ=>?_;refine bo ((Go.Lib.hasPrefix s ([61]:bn))=true) rfl (λcd3=>?_) λcd3=>?_
   .refine dc4 (λ(x14:ND) (K14:SV) (e14:Int) (ks14:(List Tr))=>{i:=[x14.k,x14.v0,x14.v1,x14.v2,x14.v5,x14.a0,x14.a1,x14.a2,x14.a3,x14.b0,x14.b1,x14.b2,x14.b3,x14.rows,e14],t:=[x14.v3,x14.name],b:=[x14.v4,x14.a4,x14.a5,x14.b4,x14.b5],r:=[K14],a:=[br Γ (oneS K14) ks14]}) _ (λ_ _=>LH Γ (Go.Lib.trimPrefix s ([61]:bn)) Kq0) λZ x14 K14 e14 ks14 qd14=>?_;refine bA λbk1=>?_;exact an λh hs=>⟨2,0,0,0,([]:bn),false,0,x14,K14,(decide (e14=0)),ks14,Kq0,rfl,hs⟩
   .refine dsU {a:=[br Γ (oneS (.lit mt)) ([]:List Tr)]} (λl h hs=>cD (hs) (l:=l) (h:=h)) ?_;exact an λh hs=>⟨0,0,0,0,([]:bn),false,0,(ND.mk 0 0 0 0 ([]:bn) false 0 ([]:bn) 0 0 0 0 false false 0 0 0 0 false false 0),(.lit mt),false,([]:List Tr),Kq0,Kq2,hs⟩
structure DecC(t:bn)(k vk m e:Int)(s:bn)(b0:Bool)(f:Int)(x:ND)(ks:List Tr):Prop where
 c:codeC k vk m e s b0 f x ks=(t,0)
theorem QV{t c:bn}{er k vk m e f:Int}{s:bn}{b0:Bool}{x:ND}{ks:List Tr}(h:(c,er)=codeC k vk m e s b0 f x ks)(h0:er=0)(hc:c=t):DecC t k vk m e s b0 f x ks:=⟨by rw[<-h,h0,hc]⟩
abbrev Tp(Γ:Glob)(s:bn):TG:=λl Zq vq hq=>∃ck:Int,∃vk:Int,∃m:Int,∃e:Int,∃tx:bn,∃cb:Bool,∃f:Int,∃x:ND,∃K:SV,∃er:Int,∃ks:List Tr,((er=0\/er=6)/\(ck=0\/ck=1\/ck=2)/\(sizeL ks:Int)<=3200/\TF m (TF e (TF f ((tx.length:Int)<=3100/\ConI ck vk m e tx cb f x ks/\NilK K ks/\(er=0->DecC s ck vk m e tx cb f x ks)))))/\vq=.tuple [.agg [iV ck,iV vk,iV m,iV e,sV tx,bV cb,iV f,iV x.k,iV x.v0,iV x.v1,iV x.v2,sV x.v3,bV x.v4,iV x.v5,sV x.name,iV x.a0,iV x.a1,iV x.a2,iV x.a3,bV x.a4,bV x.a5,iV x.b0,iV x.b1,iV x.b2,iV x.b3,bV x.b4,bV x.b5,iV x.rows,(oneS K)],iV er]/\St Zq (br Γ (oneS K) ks::l) hq
theorem SE(s:bn)(hs0:(s.length:Int)<=3090)(hs:St Z0 (l) h):RC Γ Z0 71 [sV s] h (Tp Γ s l):=by
 refine bL Tryz.f71 Tryz.func71 [vT 0] [] ⟨0,1,0,0,0,0⟩ (va {t:=[s]}) (.new<|.call 119 [vT 0] [] (.tup [.agg zq1,vB 6]) [.asr 0] ⟨19,4,7,1,1,1⟩<|.new<|.fork (.bv 6) (.call 50 [.agg zq1] [.asr 0] (vB 7) [.asr 1] ⟨19,4,8,1,2,2⟩<|.fork (.bv 7) (.call 22 [.agg zq1] [.asr 1] (.tup [vT 4,vI 19]) [.asr 2] ⟨20,5,8,1,2,3⟩<|.fork (.eq (.v 19) (.z 0)) (.fork (.teq (.tv 4) (.tv 0)) (.ret (.tup [.agg zq1,Fd]) [.asr 2])<|.swap [] [.asr 3] ⟨20,5,8,1,2,4⟩<|.ret (.tup [.agg zq0,Tz]) [.asr 3])<|.swap [] [.asr 3] ⟨20,5,8,1,2,4⟩<|.ret (.tup [.agg zq0,Tz]) [.asr 3])<|.swap [] [.asr 2] ⟨19,4,8,1,2,3⟩<|.ret (.tup [.agg zq0,Tz]) [.asr 2])<|.swap [] [.asr 1] ⟨19,4,7,1,2,2⟩<|.ret (.tup [.agg zq0,Tz]) [.asr 1]) hs ?_;refine bA λbk0=>?_;refine Pe (λ(ck0:Int) (vk0:Int) (m0:Int) (e0:Int) (tx0:bn) (cb0:Bool) (f0:Int) (x0:ND) (K0:SV) (ok0:Bool) (ks0:(List Tr))=>{i:=[ck0,vk0,m0,e0,f0,x0.k,x0.v0,x0.v1,x0.v2,x0.v5,x0.a0,x0.a1,x0.a2,x0.a3,x0.b0,x0.b1,x0.b2,x0.b3,x0.rows],t:=[tx0,x0.v3,x0.name],b:=[cb0,x0.v4,x0.a4,x0.a5,x0.b4,x0.b5,ok0],r:=[K0],a:=[br Γ (oneS K0) ks0]}) _ (λ_ _=>SY Γ s Kq1) λZ ck0 vk0 m0 e0 tx0 cb0 f0 x0 K0 ok0 ks0 qd0=>?_;refine bA λbk1=>?_;refine bo (ok0=true) rfl (λcd1=>?_) λcd1=>?_
 .refine dcU {b:=[(dI ck0 vk0 m0 e0 tx0 cb0 f0 x0 ks0)],a:=[br Γ (oneS K0) ks0]} (λ_ _=>MS Γ ck0 vk0 m0 e0 tx0 cb0 f0 x0 K0 ks0 Kq1 Kq1) λZ=>?_;refine bo ((dI ck0 vk0 m0 e0 tx0 cb0 f0 x0 ks0)=true) rfl (λcd2=>?_) λcd2=>?_
  .refine dc2 (λ(c2:bn) (er2:Int)=>{i:=[er2],t:=[c2],a:=[br Γ (oneS K0) ks0]}) _ (λ_ _=>Ri Γ ck0 vk0 m0 e0 tx0 cb0 f0 x0 K0 ks0 Kq1 Kq1 Kq1 Kq1) λZ c2 er2 qd2=>?_;refine bo (er2=0) rfl (λcd3=>?_) λcd3=>?_
   .refine bo (c2=s) rfl (λcd4=>?_) λcd4=>?_
    .exact an λh hs=>⟨ck0,vk0,m0,e0,tx0,cb0,f0,x0,K0,0,ks0,Kq1,rfl,hs⟩
    .refine dsU {a:=[br Γ (oneS (.lit mt)) ([]:List Tr)]} (λl h hs=>cD (hs) (l:=l) (h:=h)) ?_;exact an λh hs=>⟨0,0,0,0,([]:bn),false,0,(ND.mk 0 0 0 0 ([]:bn) false 0 ([]:bn) 0 0 0 0 false false 0 0 0 0 false false 0),(.lit mt),6,([]:List Tr),Kq1,Kq3,hs⟩
   .refine dsU {a:=[br Γ (oneS (.lit mt)) ([]:List Tr)]} (λl h hs=>cD (hs) (l:=l) (h:=h)) ?_;exact an λh hs=>⟨0,0,0,0,([]:bn),false,0,(ND.mk 0 0 0 0 ([]:bn) false 0 ([]:bn) 0 0 0 0 false false 0 0 0 0 false false 0),(.lit mt),6,([]:List Tr),Kq1,Kq3,hs⟩
  .refine dsU {a:=[br Γ (oneS (.lit mt)) ([]:List Tr)]} (λl h hs=>cD (hs) (l:=l) (h:=h)) ?_;exact an λh hs=>⟨0,0,0,0,([]:bn),false,0,(ND.mk 0 0 0 0 ([]:bn) false 0 ([]:bn) 0 0 0 0 false false 0 0 0 0 false false 0),(.lit mt),6,([]:List Tr),Kq1,Kq3,hs⟩
 .refine dsU {a:=[br Γ (oneS (.lit mt)) ([]:List Tr)]} (λl h hs=>cD (hs) (l:=l) (h:=h)) ?_;exact an λh hs=>⟨0,0,0,0,([]:bn),false,0,(ND.mk 0 0 0 0 ([]:bn) false 0 ([]:bn) 0 0 0 0 false false 0 0 0 0 false false 0),(.lit mt),6,([]:List Tr),Kq1,Kq3,hs⟩
theorem Kr0{P:Prop}(h:P:=by first|omega|(and_intros<;>intros<;>and_intros<;>first|omega|assumption|(have w1:=gq s 46;omega)|exact So cd1 (qd1.2.2 cd2) (qd2.2.2 cd3) (idz (by assumption))|exact V1)):P:=h
theorem Kr4{P:Prop}(h:P:=by first|rfl|(show(.tuple [.agg [iV nn1,iV nn2],bV false]:SV)=_;simp_all)):P:=h
structure IdI(s:bn)(a n:Int):Prop where
 t:idB a n=s
 z:¬(a=0/\n=0)
theorem idz{a n:Int}(h:(!((decide (a=0))&&(decide (n=0))))=true):¬(a=0/\n=0):=by intro hh;rw[hh.1,hh.2]at h;cases h
theorem So{s:bn}{a n:Int}(h:(Go.Lib.cut s [46]).2.2=true)(h1:cj a=(Go.Lib.cut s [46]).1)(h2:cj n=(Go.Lib.cut s [46]).2.1)(hz:¬(a=0/\n=0)):IdI s a n:=by
 refine⟨?_,hz⟩;have e:=(gm h).1;unfold idB;rw[h1,h2]
 conv=>rhs;rw[e]
 simp
abbrev SX(Γ:Glob)(a n:Int):TG:=λl Zq vq hq=>(True)/\vq=sV (idB a n)/\St Zq (l) hq
theorem Ji(a n:Int)(hi: TF a (TE n))(hs:St Z0 (l) h):RC Γ Z0 20 [.agg [iV a,iV n]] h (SX Γ a n l):=by
 refine bL Tryz.f20 Tryz.func20 [.agg [vI 0,vI 1]] [] ⟨2,0,0,0,0,0⟩ (va {i:=[a,n]}) (.new<|.call 44 [vI 0] [] (vT 0) [] ⟨2,1,0,0,1,0⟩<|.vc (.le (.add (.len (.tv 0)) (.len (.tl [46]))) (.z 9223372036854775807))<|.call 44 [vI 1] [] (vT 1) [] ⟨2,2,0,0,1,0⟩<|.vc (.le (.add (.len (.cat (.tv 0) (.tl [46]))) (.len (.tv 1))) (.z 9223372036854775807))<|.ret (.txt (.cat (.cat (.tv 0) (.tl [46])) (.tv 1))) []) hs ?_;refine bA λbk0=>?_;refine dcU {t:=[(cj a)]} (λ_ _=>lX Γ a TR) λZ=>?_;refine bE (show(((cj a).length:Int)+(([46]:bn).length:Int))<=9223372036854775807 from TR) ?_;refine dcU {t:=[(cj n)]} (λ_ _=>lX Γ n TR) λZ=>?_;refine bE (show((((cj a)++([46]:bn)).length:Int)+((cj n).length:Int))<=9223372036854775807 from TR) ?_;exact an λh hs=>⟨TH,rfl,hs⟩
abbrev Sh(Γ:Glob)(s:bn):TG:=λl Zq vq hq=>∃nn:Int,∃ok:Bool,(TF nn ((ok=true->cj nn=s)))/\vq=.tuple [iV nn,bV ok]/\St Zq (l) hq
theorem QH(s:bn)(hs0:(s.length:Int)<=3000)(hs:St Z0 (l) h):RC Γ Z0 117 [sV s] h (Sh Γ s l):=by
 refine bL Tryz.f117 Tryz.func117 [vT 0] [] ⟨0,1,0,0,0,0⟩ (va {t:=[s]}) (.call 159 [vT 0] [] (.tup [vI 0,.raw 0]) [] ⟨1,1,0,1,0,0⟩<|.row (.bin .eql 61 (.raw 0) (.lit .nilIface)) [] (vB 0) ⟨1,1,1,1,0,0⟩<|.fork (.bv 0) (.call 44 [vI 0] [] (vT 1) [] ⟨1,2,1,1,0,0⟩<|.ret (.tup [vI 0,.bool (.teq (.tv 1) (.tv 0))]) [])<|.ret (.tup [vI 0,TA]) []) hs ?_;refine dc2 (λ(nz0:Int) (er0:SV)=>{i:=[nz0],r:=[er0]}) _ (λ_ _=>Ma Γ s TJ) λZ nz0 er0 qd0=>?_;refine iQ {b:=[(!isErr (oneS er0))]} (λ_ xo yo=>Jb TJ xo yo) ?_;refine bo ((!isErr (oneS er0))=true) rfl (λcd1=>?_) λcd1=>?_
 .refine dcU {t:=[(cj nz0)]} (λ_ _=>lX Γ nz0 TJ) λZ=>?_;exact an λh hs=>⟨nz0,(decide ((cj nz0)=s)),TH,rfl,hs⟩
 .exact an λh hs=>⟨nz0,false,TH,rfl,hs⟩
abbrev Ta(Γ:Glob)(s:bn):TG:=λl Zq vq hq=>∃xa:Int,∃xn:Int,∃ok:Bool,(TF xa (TF xn ((ok=true->IdI s xa xn))))/\vq=.tuple [.agg [iV xa,iV xn],bV ok]/\St Zq (l) hq
theorem Jf(s:bn)(hs0:(s.length:Int)<=3000)(hs:St Z0 (l) h):RC Γ Z0 68 [sV s] h (Ta Γ s l):=by
 refine bL Tryz.f68 Tryz.func68 [vT 0] [] ⟨0,1,0,0,0,0⟩ (va {t:=[s]}) (.new<|.call 11 [vT 0,.txt (.tl [46])] [] (.tup [vT 1,vT 2,vB 0]) [] ⟨0,3,1,0,1,0⟩<|.call 117 [vT 1] [] (.tup [vI 0,vB 1]) [] ⟨1,3,2,0,1,0⟩<|.call 117 [vT 2] [] (.tup [vI 1,vB 2]) [] ⟨2,3,3,0,1,0⟩<|.new<|.fork (.bv 0) (.fork (.bv 1) (.fork (.bv 2) (.ret (.tup [.agg [vI 0,vI 1],.bool (.not (.and (.eq (.v 0) (.z 0)) (.eq (.v 1) (.z 0))))]) [])<|.ret (.tup [.agg [vI 0,vI 1],TA]) [])<|.ret (.tup [.agg [vI 0,vI 1],TA]) [])<|.ret (.tup [.agg [vI 0,vI 1],TA]) []) hs ?_;refine bA λbk0=>?_;refine dcU {t:=[((Go.Lib.cut s ([46]:bn)).1),((Go.Lib.cut s ([46]:bn)).2.1)],b:=[((Go.Lib.cut s ([46]:bn)).2.2)]} (λ_ _=>w5r Γ s ([46]:bn) Kr0) λZ=>?_;refine dc2 (λ(nn1:Int) (ok1:Bool)=>{i:=[nn1],b:=[ok1]}) _ (λ_ _=>QH Γ ((Go.Lib.cut s ([46]:bn)).1) Kr0) λZ nn1 ok1 qd1=>?_;refine dc2 (λ(nn2:Int) (ok2:Bool)=>{i:=[nn2],b:=[ok2]}) _ (λ_ _=>QH Γ ((Go.Lib.cut s ([46]:bn)).2.1) Kr0) λZ nn2 ok2 qd2=>?_;refine bA λbk1=>?_;refine bo (((Go.Lib.cut s ([46]:bn)).2.2)=true) rfl (λcd1=>?_) λcd1=>?_
 .refine bo (ok1=true) rfl (λcd2=>?_) λcd2=>?_
  .refine bo (ok2=true) rfl (λcd3=>?_) λcd3=>?_
   .exact an λh hs=>⟨nn1,nn2,(!((decide (nn1=0))&&(decide (nn2=0)))),Kr0,rfl,hs⟩
   .exact an λh hs=>⟨nn1,nn2,false,Kr0,Kr4,hs⟩
  .exact an λh hs=>⟨nn1,nn2,false,Kr0,Kr4,hs⟩
 .exact an λh hs=>⟨nn1,nn2,false,Kr0,Kr4,hs⟩
theorem Ks0{P:Prop}(h:P:=by first|omega|(have w1:=gq r 92;(try simp only[ac,au,aw]);omega)|(first|(have w3:=Iy (by assumption:Go.Lib.hasPrefix (Go.Lib.cut r [92]).2.1 [92]=true);have w4:=tFl (Go.Lib.cut r [92]).2.1 1 bj;have w2:=rT (by assumption:(Go.Lib.cut r [92]).2.2=true);(try simp only[ac,au,aw]);omega)|(have w3:=Iy (by assumption:Go.Lib.hasPrefix (Go.Lib.cut r [92]).2.1 [110]=true);have w4:=tFl (Go.Lib.cut r [92]).2.1 1 bj;have w2:=rT (by assumption:(Go.Lib.cut r [92]).2.2=true);(try simp only[ac,au,aw]);omega))|first|omega|(and_intros<;>intros<;>and_intros<;>first|omega|assumption|exact OK hn|exact Od hi.2 (by assumption) (by assumption)|exact O2 hi.2 (by assumption) (by assumption)|exact Nc hi.2 (by assumption)|(have w1:=gq r 92;(try simp only[ac,au,aw]);omega)|(first|(have w3:=Iy (by assumption:Go.Lib.hasPrefix (Go.Lib.cut r [92]).2.1 [92]=true);have w4:=tFl (Go.Lib.cut r [92]).2.1 1 bj;have w2:=rT (by assumption:(Go.Lib.cut r [92]).2.2=true);(try simp only[ac,au,aw]);omega)|(have w3:=Iy (by assumption:Go.Lib.hasPrefix (Go.Lib.cut r [92]).2.1 [110]=true);have w4:=tFl (Go.Lib.cut r [92]).2.1 1 bj;have w2:=rT (by assumption:(Go.Lib.cut r [92]).2.2=true);(try simp only[ac,au,aw]);omega))|exact V1)):P:=h
theorem Ks1{P:Prop}(h:P:=by first|omega|(have w1:=Fw s;omega)|first|omega|(and_intros<;>intros<;>and_intros<;>first|omega|assumption|exact V1)):P:=h
structure PlainI(s acc r:bn):Prop where
 n:(10:UInt8)∉s
 e:s=ft.esc acc++r
structure PlainE(s x:bn):Prop where
 e:ft.esc x=s
section
variable {s acc r:bn}
theorem OK(h:(10:UInt8)∉s):PlainI s [] s:=⟨h,by rw[ft.esc_nil];rfl⟩
theorem PlainI.nr(w:PlainI s acc r):(10:UInt8)∉r:=λh=>w.n (by rw[w.e];exact aO _ h)
theorem Nc(w:PlainI s acc r)(h:¬(Go.Lib.cut r [92]).2.2=true):PlainE s (acc++(Go.Lib.cut r [92]).1):=by
 obtain⟨h1,h2⟩:=ia h;rw[h1];exact⟨by rw[ft.esc_append,ft.esc_no h2 w.nr,<-w.e]⟩
theorem F1{l:bn}{c:UInt8}(h:Go.Lib.hasPrefix l [c]=true):l=c::bZ l 1:=by
 obtain⟨t,rfl⟩:=List.isPrefixOf_iff_prefix.1 h;rfl
theorem BC{c d:UInt8}(w:PlainI s acc r)(h:(Go.Lib.cut r [92]).2.2=true)(hp:Go.Lib.hasPrefix (Go.Lib.cut r [92]).2.1 [c]=true)(hd:∀l,ft.esc (d::l)=92::c::ft.esc l):PlainI s ((acc++(Go.Lib.cut r [92]).1)++[d]) (bZ (Go.Lib.cut r [92]).2.1 1):=by
 obtain⟨h1,h2⟩:=gm h;have h3:=F1 hp;refine⟨w.n,?_⟩;have hr:=w.nr;rw[h1]at hr;rw[ft.esc_append,ft.esc_append,hd,ft.esc_nil,ft.esc_no h2 (λhh=>hr (aK _ hh))]
 conv=>lhs;rw[w.e,h1,h3]
 simp
theorem Od(w:PlainI s acc r)(h:(Go.Lib.cut r [92]).2.2=true)(hp:Go.Lib.hasPrefix (Go.Lib.cut r [92]).2.1 [92]=true):PlainI s ((acc++(Go.Lib.cut r [92]).1)++[UInt8.ofNat (Int.toNat 92)]) (bZ (Go.Lib.cut r [92]).2.1 1):=BC w h hp ft.esc_bs
theorem O2(w:PlainI s acc r)(h:(Go.Lib.cut r [92]).2.2=true)(hp:Go.Lib.hasPrefix (Go.Lib.cut r [92]).2.1 [110]=true):PlainI s ((acc++(Go.Lib.cut r [92]).1)++[UInt8.ofNat (Int.toNat 10)]) (bZ (Go.Lib.cut r [92]).2.1 1):=BC w h hp ft.esc_nl
theorem Iy{l:bn}{c:UInt8}(h:Go.Lib.hasPrefix l [c]=true):1<=(l.length:Int):=by
 have:=BH l [c] h
 simpa using this
end
theorem NJ(s:bn):Go.Lib.replaceAll (Go.Lib.replaceAll s [92] [92,92]) [10] [92,110]=ft.esc s:=by
 rw[ft.replaceAll_eq (by decide),ft.replaceAll_eq (by decide)];rfl
theorem Fw(s:bn):((Go.Lib.replaceAll s [92] [92,92]).length:Int)<=2*(s.length:Int):=by
 rw[ft.replaceAll_eq (by decide)];have:=ft.e1_len s;unfold ft.e1 at this;omega
abbrev RF(Γ:Glob)(s:bn):TG:=λl Zq vq hq=>(True)/\vq=sV (ft.esc s)/\St Zq (l) hq
theorem Py(s:bn)(hs0:(s.length:Int)<=50000)(hs:St Z0 (l) h):RC Γ Z0 23 [sV s] h (RF Γ s l):=by
 refine bL Tryz.f23 Tryz.func23 [vT 0] [] ⟨0,1,0,0,0,0⟩ (va {t:=[s]}) (.call 52 [vT 0,.txt (.tl [92]),.txt (.tl [92,92])] [] (vT 1) [] ⟨0,2,0,0,0,0⟩<|.call 52 [vT 1,.txt (.tl [10]),.txt (.tl [92,110])] [] (vT 2) [] ⟨0,3,0,0,0,0⟩<|.ret (vT 2) []) hs ?_;refine dcU {t:=[(Go.Lib.replaceAll s ([92]:bn) ([92,92]:bn))]} (λ_ _=>Qu Γ s ([92]:bn) ([92,92]:bn) Ks1 Ks1 Ks1) λZ=>?_;refine dcU {t:=[(Go.Lib.replaceAll (Go.Lib.replaceAll s ([92]:bn) ([92,92]:bn)) ([10]:bn) ([92,110]:bn))]} (λ_ _=>Qu Γ (Go.Lib.replaceAll s ([92]:bn) ([92,92]:bn)) ([10]:bn) ([92,110]:bn) Ks1 Ks1 Ks1) λZ=>?_;exact an λh hs=>⟨by first|trivial|omega|(and_intros<;>intros<;>and_intros<;>first|trivial|omega|assumption|exact V1),by first|rfl|(show(sV (Go.Lib.replaceAll (Go.Lib.replaceAll s ([92]:bn) ([92,92]:bn)) ([10]:bn) ([92,110]:bn)):SV)=_;rw[NJ]),hs⟩
abbrev P2(Γ:Glob)(s:bn):TG:=λl Zq vq hq=>∃x:bn,∃ok:Bool,((x.length:Int)<=3000/\(ok=true->PlainE s x))/\vq=.tuple [sV x,bV ok]/\St Zq (l) hq
noncomputable abbrev SR(Γ:Glob)(s:bn)(Z0:Hp)(l:List Asrt):Cx:=fnC Tryz.prog Γ Tryz.f70 1 [] (d4 Z0::l) (dz Z0 (P2 Γ s l))
theorem Nf(s:bn)(hs0:(s.length:Int)<=3000)(hn:(10:UInt8)∉s)(bk0:Nat):∀(m:Nat) (Z:Hp) (r acc:bn) (hi:(r.length:Int)+acc.length<=s.length/\PlainI s acc r) (hm:r.length<m),den (SR Γ s Z0 l) (.stop [0,1,1] [(0,vT 1),(4,.ptr 0 0)] [.asr 1]) ⟨0,2,0,0,1,2⟩ (va {t:=[s,r],n:=[bk0],a:=[cp bk0 [],cp bk0 acc]}) Z:=by
 intro m
 induction m with
 |zero=>intros;omega
 |succ m ih=>
  intro Z r acc hi hm;refine cZ [0,1,1] [(0,vT 1),(4,.ptr 0 0)] [.asr 1] [] ⟨0,2,0,0,1,2⟩ (.call 11 [vT 1,.txt (.tl [92])] [] (.tup [vT 2,vT 3,vB 0]) [] ⟨0,4,1,0,1,2⟩<|.call 15 [.ptr 0 0,vT 2] [.asr 1] (.tup [vI 0,.lit .nilIface]) [.asr 2] ⟨1,4,1,0,1,3⟩<|.fork (.bv 0) (.call 118 [vT 3,.txt (.tl [92])] [] (vB 1) [] ⟨1,4,2,0,1,3⟩<|.fork (.bv 1) (.call 17 [.ptr 0 0,.int .u8 (.z 92)] [.asr 2] (.lit .nilIface) [.asr 3] ⟨1,4,2,0,1,4⟩<|.vc (.le (.z 0) (.z 1))<|.vc (.le (.z 1) (.len (.tv 3)))<|.stop [0,1,1] [(0,.txt (.tfr (.tv 3) (.z 1))),(4,.ptr 0 0)] [.asr 3])<|.call 118 [vT 3,.txt (.tl [110])] [] (vB 2) [] ⟨1,4,3,0,1,3⟩<|.fork (.bv 2) (.call 17 [.ptr 0 0,.int .u8 (.z 10)] [.asr 2] (.lit .nilIface) [.asr 3] ⟨1,4,3,0,1,4⟩<|.vc (.le (.z 0) (.z 1))<|.vc (.le (.z 1) (.len (.tv 3)))<|.stop [0,1,1] [(0,.txt (.tfr (.tv 3) (.z 1))),(4,.ptr 0 0)] [.asr 3])<|.ret (.tup [.txt (.tl []),TA]) [])<|.call 26 [.ptr 0 0] [.asr 2] (vT 4) [] ⟨1,5,1,0,1,3⟩<|.ret (.tup [vT 4,TB]) []) 100000 bm (λ_ h=>by cases h) ?_;refine dcU {t:=[((Go.Lib.cut r ([92]:bn)).1),((Go.Lib.cut r ([92]:bn)).2.1)],b:=[((Go.Lib.cut r ([92]:bn)).2.2)]} (λ_ _=>w5r Γ r ([92]:bn) Ks0) λZ=>?_;refine bS (λ(n101:Int)=>{i:=[n101],a:=[cp bk0 (acc++((Go.Lib.cut r ([92]:bn)).1))]}) _ (λ_ _=>Ld Γ bk0 ((Go.Lib.cut r ([92]:bn)).1) acc Ks0) λZ n101 qd101=>?_;refine bo (((Go.Lib.cut r ([92]:bn)).2.2)=true) rfl (λcd1=>?_) λcd1=>?_
  .refine dcU {b:=[(Go.Lib.hasPrefix ((Go.Lib.cut r ([92]:bn)).2.1) ([92]:bn))]} (λ_ _=>w6r Γ ((Go.Lib.cut r ([92]:bn)).2.1) ([92]:bn)) λZ=>?_;refine bo ((Go.Lib.hasPrefix ((Go.Lib.cut r ([92]:bn)).2.1) ([92]:bn))=true) rfl (λcd2=>?_) λcd2=>?_
   .refine dcU {a:=[cp bk0 ((acc++((Go.Lib.cut r ([92]:bn)).1))++[UInt8.ofNat (Int.toNat 92)])]} (λ_ _=>Jv Γ bk0 92 (acc++((Go.Lib.cut r ([92]:bn)).1)) Ks0 Ks0) λZ=>?_;refine bE (show 0<=1 from Ks0) ?_;refine bE (show 1<=(((Go.Lib.cut r ([92]:bn)).2.1).length:Int)from Ks0) ?_;exact bu (ih _ (bZ ((Go.Lib.cut r ([92]:bn)).2.1) 1) ((acc++((Go.Lib.cut r ([92]:bn)).1))++[UInt8.ofNat (Int.toNat 92)]) Ks0 Ks0) rfl rfl
   .refine dcU {b:=[(Go.Lib.hasPrefix ((Go.Lib.cut r ([92]:bn)).2.1) ([110]:bn))]} (λ_ _=>w6r Γ ((Go.Lib.cut r ([92]:bn)).2.1) ([110]:bn)) λZ=>?_;refine bo ((Go.Lib.hasPrefix ((Go.Lib.cut r ([92]:bn)).2.1) ([110]:bn))=true) rfl (λcd3=>?_) λcd3=>?_
    .refine dcU {a:=[cp bk0 ((acc++((Go.Lib.cut r ([92]:bn)).1))++[UInt8.ofNat (Int.toNat 10)])]} (λ_ _=>Jv Γ bk0 10 (acc++((Go.Lib.cut r ([92]:bn)).1)) Ks0 Ks0) λZ=>?_;refine bE (show 0<=1 from Ks0) ?_;refine bE (show 1<=(((Go.Lib.cut r ([92]:bn)).2.1).length:Int)from Ks0) ?_;exact bu (ih _ (bZ ((Go.Lib.cut r ([92]:bn)).2.1) 1) ((acc++((Go.Lib.cut r ([92]:bn)).1))++[UInt8.ofNat (Int.toNat 10)]) Ks0 Ks0) rfl rfl
    .exact an λh hs=>⟨([]:bn),false,Ks0,rfl,hs⟩
  .refine dcU {t:=[(acc++((Go.Lib.cut r ([92]:bn)).1))]} (λ_ _=>M1 Γ bk0 (acc++((Go.Lib.cut r ([92]:bn)).1)) Ks0) λZ=>?_;exact an λh hs=>⟨(acc++((Go.Lib.cut r ([92]:bn)).1)),true,Ks0,rfl,hs⟩
theorem Pb(s:bn)(hs0:(s.length:Int)<=3000)(hn:(10:UInt8)∉s)(hs:St Z0 (l) h):RC Γ Z0 70 [sV s] h (P2 Γ s l):=by
 refine bL Tryz.f70 Tryz.func70 [vT 0] [] ⟨0,1,0,0,0,0⟩ (va {t:=[s]}) (.new<|.swap [.blk 0 [.lit (.pointer none),.lit mt] 58] [.asr 0] ⟨0,1,0,0,1,1⟩<|.stop [0,1,1] [(0,vT 0),(4,.ptr 0 0)] [.asr 0]) hs ?_;refine bA λbk0=>?_;refine dsU {a:=[cp bk0 []]} (λl h hs=>vZ (hs) (l:=l) (h:=h)) ?_;exact bu (Nf Γ s hs0 hn bk0 _ _ s ([]) Ks0 (aq _)) rfl rfl
end Go.Proofs.YtbhokokpplmigaaGreatDoor.Sx
