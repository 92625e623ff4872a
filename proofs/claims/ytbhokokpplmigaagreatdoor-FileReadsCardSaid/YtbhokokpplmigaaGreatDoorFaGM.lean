/-
  A part of the proof of FileReads; no condition.
-/
import Derived.Test.YtbhokokpplmigaaGreatDoorFaGK
import Derived.Test.YtbhokokpplmigaaGreatDoorFaGG
set_option linter.all false
namespace Go.Proofs.YtbhokokpplmigaaGreatDoor.Sx
open Go Go.Proofs.YtbhokokpplmigaaGreatDoor.Ev
set_option maxRecDepth 20000
set_option maxHeartbeats 4000000
variable (Γ:Glob)[Mute Γ]{Z0 h:Hp}{l:List Asrt}
abbrev OG:List XV:=[vI 9,vI 10,vI 11,vI 12,vT 7,vB 5,vI 13,vI 14,vI 15,vI 16,vI 17,vT 8,vB 6,vI 18,vT 9,vI 19,vI 20,vI 21,vI 22,vB 7,vB 8,vI 23,vI 24,vI 25,vI 26,vB 9,vB 10,vI 27,.raw 4]
abbrev OC:List XV:=(nX 5 5 3 (.raw 4))
abbrev HQ:List MI:=[.blk 6 [vI 7,vI 8] 43,.blk 5 [vI 5,vI 6] 43,.blk 0 [.raw 0,.raw 1,.map 1,.raw 2,.raw 3,.map 2,.ptr 3 0,.ptr 4 0,vI 0,vI 1,vI 2,vI 3,vI 4,vT 1] 47,.asr 0]
abbrev px:List MI:=[.blk 0 [.raw 0,.raw 1,.map 1,.raw 2,.raw 3,.map 2,.ptr 3 0,.ptr 4 0,vI 0,vI 1,vI 2,vI 3,vI 4,vT 1] 47,.asr 0]
abbrev HP:List (Nat×XV):=[(0,.ptr 0 0),(9,vT 5),(11,.ptr 5 0),(13,.ptr 6 0)]
theorem lB{P:Prop}(h:P:=by first|(obtain⟨q0,q1,q2,q3,q4,q5,q6,q7,q8,q9,q10,q11,q12⟩:=qd6;first|omega|with_reducible exact q11|with_reducible exact oP (q12 cd2)|(intro hk2;exact⟨wT (oP (q12 cd2)) hk2,q10.z hk2⟩)|exact⟨(qd2.2.2.2.2 j4i.1).z,(qd3.2.2.2.2 j4i.2.1).z⟩|with_reducible exact hst.l|(refine CA qd7 λh7 hm7=>Ht hst hl (qd2.2.2.2.2 j4i.1) (qd3.2.2.2.2 j4i.2.1) (qd5.2 cd1) qd5.1 (q12 cd2) q10 bj bj j4i.2.2.o ⟨by dsimp only;omega⟩ h7 hm7))|(have w1:=gq s 32;have w2:=gq (Go.Lib.cut s [32]).2.1 32;omega)|exact(fw (fw hs0.2).2).2|first|omega|(and_intros<;>intros<;>and_intros<;>first|omega|assumption|with_reducible exact Qy (by assumption)|with_reducible exact QM (by assumption) (by assumption)|with_reducible exact Rh (by assumption) (by assumption)|exact V1)):P:=h
theorem sn{P:Prop}(h:P:=by first|with_reducible exact hst.l|(obtain⟨q0,q1,q2,q3,q4⟩:=qd2;first|omega|exact Gg λh=>NC hst hl (qd1.2 cd1) qd1.1 (q4 cd3) q2 bj (by simpa using cd2) qd3 h)|(have w1:=gq s 32;omega)|exact(fw hs0.2).2|first|omega|(and_intros<;>intros<;>and_intros<;>first|omega|assumption|exact V1)):P:=h
theorem yG{P:Prop}(h:P:=by first|omega|(and_intros<;>intros<;>omega)|(obtain⟨q0,q1,q2,q3,q4,q5,q6,q7,q8,q9,q10,q11,q12⟩:=qd6;exact CA qd7 λh7 hm7=>Ht hst hl (qd2.2.2.2.2 j4i.1) (qd3.2.2.2.2 j4i.2.1) (qd5.2 cd1) qd5.1 (q12 cd2) q10 bj bj j4i.2.2.o ⟨by dsimp only;omega⟩ h7 hm7)):P:=h
theorem vQ:Go.Lib.cut ([]:bn) [32]=([],[],false):=(ia (s:=[]) (by rw[show Go.Lib.cut ([]:bn) [32]=([],[],false)from ft.cut_no (by simp)];simp)).1
def codeTx(c:CT):bn:=(codeC c.k c.vk c.m c.e c.t c.b c.f c.x c.ks).1
theorem rJ{p q r s:Int}(h:¬dt p q r s<0)(h2:¬dt p q r s=0):zG r s p q:=by
 unfold dt at h h2;unfold zG;split at h<;>split at h<;>simp_all<;>omega
theorem pg{p q r s:Int}(h:dt p q r s=0):p=r/\q=s:=by
 unfold dt at h;split at h<;>split at h<;>simp_all<;>omega
theorem Dh{p q r s:Int}(h:¬dt p q r s<=0):zG r s p q:=rJ bj bj
theorem En{x y z:CK}(h:ltC x y)(h2:ltC y z):ltC x z:=by
 unfold ltC zG at*;omega
theorem B7{x:CK}(h:ltC x x):False:=by
 unfold ltC zG at h;omega
theorem xD{κ α:Type}[DecidableEq κ]{L:List (κ×α)}{k:κ}{x:α}(h:k∉L.map Prod.fst):mset L k x=L++[(k,x)]:=by
 rw[lP];refine qK ?_;cases e:dZ L k with
 |none=>rfl
 |some y=>exact absurd (List.mem_map.2 ⟨_,oJ e,rfl⟩) h
structure LastC(M:List (CK×CT))(c0 c1 c2 c3:Int):Prop where
 a:(M=[]/\c0=0/\c1=0/\c2=0/\c3=0)\/((∃l t,M=l++[((c0,c1,c2,c3),t)])/\¬(c0=0/\c1=0/\c2=0/\c3=0))
structure CellQ(s:bn)(M M2:List (CK×CT))(d0 d1 d2 d3:Int):Prop where
 o:StOk M2
 l:LastC M2 d0 d1 d2 d3
 e:∃c:CT,M2=M++[((d0,d1,d2,d3),c)]/\s=idB d0 d1++32::(idB d2 d3++32::ft.esc (codeTx c))
structure OrdI(c0 c1 c2 c3 a n b p:Int):Prop where
 o:(c0=0/\c1=0/\c2=0/\c3=0)\/ltC (c0,c1,c2,c3) (a,n,b,p)
section
variable {c0 c1 c2 c3 a n b p:Int}
theorem Qy(h:((c0=0)/\(c1=0))/\((c2=0)/\(c3=0))):OrdI c0 c1 c2 c3 a n b p:=⟨.inl ⟨h.1.1,h.1.2,h.2.1,h.2.2⟩⟩
theorem QM(h:¬dt a n c0 c1<0)(h2:¬dt a n c0 c1=0):OrdI c0 c1 c2 c3 a n b p:=⟨.inr (.inl (rJ h h2))⟩
theorem Rh(h:dt a n c0 c1=0)(h2:¬dt b p c2 c3<=0):OrdI c0 c1 c2 c3 a n b p:=⟨.inr (.inr ⟨(pg h).1.symm,(pg h).2.symm,Dh h2⟩)⟩
end
theorem HO(a n:Int):idB a n≠[]:=by unfold idB;simp
theorem N0{M:List (CK×CT)}{c0 c1 c2 c3:Int}{n:CK}(hs:List.Pairwise ltC (M.map Prod.fst))(hl:LastC M c0 c1 c2 c3)(h:(c0=0/\c1=0/\c2=0/\c3=0)\/ltC (c0,c1,c2,c3) n):∀y∈M.map Prod.fst,ltC y n:=by
 rcases hl.a with⟨rfl,_⟩|⟨⟨l,t,rfl⟩,hz⟩
 .intro y hy;cases hy
 .intro y hy;have h:=h.resolve_left hz;rw[aH,ax,aY]at hy hs;rcases List.mem_append.1 hy with hy|hy
  .exact En ((List.pairwise_append.1 hs).2.2 y hy _ (List.mem_singleton.2 rfl)) h
  .rw[List.mem_singleton.1 hy];exact h
theorem Nm{M:List (CK×CT)}{c0 c1 c2 c3 d0 d1 d2 d3:Int}{c:CT}(w:StOk M)(hl:LastC M c0 c1 c2 c3)(hz:¬(d0=0/\d1=0))(hc:CtOk c)(hi:I64C (d0,d1,d2,d3))(hm:((mset M (d0,d1,d2,d3) c).length:Int)<=10000)(h:(c0=0/\c1=0/\c2=0/\c3=0)\/ltC (c0,c1,c2,c3) (d0,d1,d2,d3)):mset M (d0,d1,d2,d3) c=M++[((d0,d1,d2,d3),c)]/\StOk (mset M (d0,d1,d2,d3) c)/\LastC (mset M (d0,d1,d2,d3) c) d0 d1 d2 d3:=by
 have ha:=N0 w.s hl h;have e:mset M (d0,d1,d2,d3) c=M++[((d0,d1,d2,d3),c)]:=xD λhh=>B7 (ha _ hh);refine⟨e,⟨?_,?_,hm,?_⟩,⟨.inr ⟨⟨M,c,e⟩,λhh=>hz ⟨hh.1,hh.2.1⟩⟩⟩⟩
 .rw[e,aH,ax,aY];exact List.pairwise_append.2 ⟨w.s,List.pairwise_singleton _ _,λa h1 b h2=>by rw[List.mem_singleton.1 h2];exact ha a h1⟩
 .rw[e];intro y hy;rcases List.mem_append.1 hy with hy|hy
  .exact w.c y hy
  .rw[List.mem_singleton.1 hy];exact hc
 .rw[e];intro y hy;rcases List.mem_append.1 hy with hy|hy
  .exact w.i y hy
  .rw[List.mem_singleton.1 hy];exact hi
theorem oP{t s:bn}{k vk m e f:Int}{b0:Bool}{x:ND}{ks:List Tr}(h:DecC t k vk m e s b0 f x ks):dI k vk m e s b0 f x ks=true:=by
 have:=h.c;unfold codeC at this;by_cases hr:dI k vk m e s b0 f x ks=true
 .exact hr
 .rw[bh hr]at this;cases this
theorem M4{t s:bn}{k vk m e f:Int}{b0:Bool}{x:ND}{ks:List Tr}(h:DecC t k vk m e s b0 f x ks):t≠[]:=by
 have:=h.c;unfold codeC at this;intro ht;rw[ht]at this;split at this
 .split at this
  .split at this
   .cases this
   .cases this
  .split at this
   .split at this
    .cases this
    .cases this
   .cases this
 .cases this
theorem OL{t s:bn}{k vk m e f:Int}{b0:Bool}{x:ND}{ks:List Tr}{K:SV}(h:DecC t k vk m e s b0 f x ks)(hc:ConI k vk m e s b0 f x ks)(hn:(sizeL ks:Int)<=5000)(hv: TF m (TF e (TF f ((s.length:Int)<=3100))))(ht:(t.length:Int)<=3000):CtOk (CT.mk k vk m e s b0 f x ks K):=
 ⟨λhk=>⟨wT (oP h) hk,hc.z hk⟩,hn,hc.o,hv,⟨t,h.c,ht⟩⟩
theorem rE{s:bn}(h:ft.esc s=[]):s=[]:=by
 cases s with
 |nil=>rfl
 |cons a l=>
  exfalso;by_cases h92:a=92
  .subst h92;rw[ft.esc_bs]at h;cases h
  .by_cases h10:a=10
   .subst h10;rw[ft.esc_nl]at h;cases h
   .have e:ft.esc (a::l)=ft.esc [a]++ft.esc l:=by rw[<-ft.esc_append];rfl
    have e2:ft.esc [a]=[a]:=ft.esc_no (λhh=>h92 (List.mem_singleton.1 hh).symm) (λhh=>h10 (List.mem_singleton.1 hh).symm);rw[e,e2]at h;cases h
theorem CA{er:Int}{M M2 X:List (CK×CT)}{Q:Prop}(h:(er=0\/er=5)/\(er=0->M2=X)/\(er≠0->M2=M)/\(M2.length:Int)<=10000)(k:M2=X->(M2.length:Int)<=10000->Q):((if er=0\/er=5 then er else 6)=0\/(if er=0\/er=5 then er else 6)=5\/(if er=0\/er=5 then er else 6)=6)/\((if er=0\/er=5 then er else 6)=0->Q):=by
 rw[bi h.1];exact⟨h.1.elim .inl λh=>.inr (.inl h),λe=>k (h.2.1 e) h.2.2.2⟩
theorem Ht{s x tx:bn}{M M2:List (CK×CT)}{c0 c1 c2 c3 a n b p k vk m e f:Int}{cb:Bool}{X:ND}{ks:List Tr}{K:SV}(w:StOk M)(hl:LastC M c0 c1 c2 c3)(h1:IdI (Go.Lib.cut s [32]).1 a n)(h2:IdI (Go.Lib.cut (Go.Lib.cut s [32]).2.1 [32]).1 b p)(hp:PlainE (Go.Lib.cut (Go.Lib.cut s [32]).2.1 [32]).2.1 x)(hx:(x.length:Int)<=3000)(hd:DecC x k vk m e tx cb f X ks)(hc:ConI k vk m e tx cb f X ks)(hn:(sizeL ks:Int)<=5000)(hv: TF m (TF e (TF f ((tx.length:Int)<=3100))))
 (ho:(c0=0/\c1=0/\c2=0/\c3=0)\/ltC (c0,c1,c2,c3) (a,n,b,p)) (hi:I64C (a,n,b,p)) (hM:M2=mset M (a,n,b,p) (CT.mk k vk m e tx cb f X ks K)) (hm:(M2.length:Int)<=10000):CellQ s M M2 a n b p:=by
 subst hM;obtain⟨q1,q2,q3⟩:=Nm w hl h1.z (OL (K:=K) hd hc hn hv hx) hi hm ho;refine⟨q2,q3,_,q1,?_⟩;have hco:codeTx (CT.mk k vk m e tx cb f X ks K)=x:=by unfold codeTx;rw[hd.c]
 have f1:(Go.Lib.cut s [32]).2.2=true:=by
  cases hh:(Go.Lib.cut s [32]).2.2 with
  |true=>rfl
  |false=>
   exfalso;have e1:=(ia (by rw[hh];simp)).1;rw[e1]at h2;have e2:Go.Lib.cut ([]:bn) [32]=([],[],false):=vQ;rw[e2]at h2;exact HO _ _ h2.t
 have f2:(Go.Lib.cut (Go.Lib.cut s [32]).2.1 [32]).2.2=true:=by
  cases hh:(Go.Lib.cut (Go.Lib.cut s [32]).2.1 [32]).2.2 with
  |true=>rfl
  |false=>
   exfalso;have e1:=(ia (s:=(Go.Lib.cut s [32]).2.1) (by rw[hh];simp)).1;rw[e1]at hp;exact M4 hd (rE hp.e)
 have g1:=(gm f1).1;have g2:=(gm f2).1;rw[h1.t,hco,hp.e,h2.t,<-g2,<-g1]
theorem fw{s:bn}{c b:UInt8}(h:b∉s):b∉(Go.Lib.cut s [c]).1/\b∉(Go.Lib.cut s [c]).2.1:=by
 cases hh:(Go.Lib.cut s [c]).2.2 with
 |true=>
  have e:=(gm hh).1;rw[e]at h;exact⟨λx=>h (aK _ x),λx=>h (aO _ (am _ x))⟩
 |false=>
  have e:=(ia (by rw[hh];simp:¬(Go.Lib.cut s [c]).2.2=true)).1;rw[e];exact⟨h,by simp⟩
abbrev KP(Γ:Glob)(R:Nat)(s:bn)(ri rd:SV)(RM:Nat)(ci cd:SV)(CM CE NA:Nat)(kd c0:Int)(c1 c2 c3:Int)(nm:bn)(M:List (CK×CT)):TG:=λl Zq vq hq=>∃er:Int,∃d0:Int,∃d1:Int,∃d2:Int,∃d3:Int,∃M2:List (CK×CT),((er=0\/er=5\/er=6)/\(er=0->CellQ s M M2 d0 d1 d2 d3))/\vq=iV er/\St Zq (own R (.cells [(oneS ri),(oneS rd),.map RM,(oneS ci),(oneS cd),.map CM,.ptr CE 0,.ptr NA 0,iV kd,iV d0,iV d1,iV d2,iV d3,sV nm] 47)::stA CE Γ M2::l) hq
noncomputable abbrev PA(Γ:Glob)(R:Nat)(s:bn)(ri rd:SV)(RM:Nat)(ci cd:SV)(CM CE NA:Nat)(kd c0:Int)(c1 c2 c3:Int)(nm:bn)(M:List (CK×CT))(Z0:Hp)(l:List Asrt):Cx:=fnC Tryz.prog Γ Tryz.f35 2 [] (d4 Z0::l) (dz Z0 (KP Γ R s ri rd RM ci cd CM CE NA kd c0 c1 c2 c3 nm M l))
theorem Oh(R:Nat)(s:bn)(ri rd:SV)(RM:Nat)(ci cd:SV)(CM CE NA:Nat)(kd c0:Int)(c1 c2 c3:Int)(nm:bn)(M:List (CK×CT))(hs0:(s.length:Int)<=2990/\(10:UInt8)∉s)(hst:StOk M)(hl:LastC M c0 c1 c2 c3)(hs:St Z0 (own R (.cells [(oneS ri),(oneS rd),.map RM,(oneS ci),(oneS cd),.map CM,.ptr CE 0,.ptr NA 0,iV kd,iV c0,iV c1,iV c2,iV c3,sV nm] 47)::stA CE Γ M::l) h):RC Γ Z0 35 [.ptr R 0,sV s] h (KP Γ R s ri rd RM ci cd CM CE NA kd c0 c1 c2 c3 nm M l):=by
 refine bL Tryz.f35 Tryz.func35 [.ptr 0 0,vT 0] px ⟨5,2,0,4,5,1⟩ (va {i:=[kd,c0,c1,c2,c3],t:=[s,nm],r:=[ri,rd,ci,cd],n:=[R,RM,CM,CE,NA],a:=[stA CE Γ M]}) (.call 11 [vT 0,.txt (.tl [32])] [] (.tup [vT 2,vT 3,vB 0]) [] ⟨5,4,1,4,5,1⟩<|.call 11 [vT 3,.txt (.tl [32])] [] (.tup [vT 4,vT 5,vB 1]) [] ⟨5,6,2,4,5,1⟩<|.call 68 [vT 2] [] (.tup [.agg [vI 5,vI 6],vB 2]) [] ⟨7,6,3,4,5,1⟩<|.new<|.call 68 [vT 4] [] (.tup [.agg [vI 7,vI 8],vB 3]) [] ⟨9,6,4,4,6,1⟩<|.new<|.fork (.bv 2) (.fork (.bv 3) (.fork (.and (.and (.eq (.v 1) (.z 0)) (.eq (.v 2) (.z 0))) (.and (.eq (.v 3) (.z 0)) (.eq (.v 4) (.z 0)))) (.stop [1,1,1,1,1,1,1] HP HQ)<|.call 69 [.agg [vI 5,vI 6],.agg [vI 1,vI 2]] [] (vI 9) [] ⟨10,6,4,4,7,1⟩<|.fork (.lt (.v 9) (.z 0)) (.ret (Tz) px)<|.fork (.eq (.v 9) (.z 0)) (.call 69 [.agg [vI 7,vI 8],.agg [vI 3,vI 4]] [] (vI 10) [] ⟨11,6,4,4,7,1⟩<|.fork (.le (.v 10) (.z 0)) (.ret (Tz) px)<|.stop [1,1,1,1,1,1,1] HP HQ)<|.stop [1,1,1,1,1,1,1] HP HQ)<|.ret (Tz) px)<|.ret (Tz) px) hs ?_;refine dcU {t:=[((Go.Lib.cut s ([32]:bn)).1),((Go.Lib.cut s ([32]:bn)).2.1)],b:=[((Go.Lib.cut s ([32]:bn)).2.2)]} (λ_ _=>w5r Γ s ([32]:bn) lB) λZ=>?_;refine dcU {t:=[((Go.Lib.cut ((Go.Lib.cut s ([32]:bn)).2.1) ([32]:bn)).1),((Go.Lib.cut ((Go.Lib.cut s ([32]:bn)).2.1) ([32]:bn)).2.1)],b:=[((Go.Lib.cut ((Go.Lib.cut s ([32]:bn)).2.1) ([32]:bn)).2.2)]} (λ_ _=>w5r Γ ((Go.Lib.cut s ([32]:bn)).2.1) ([32]:bn) lB) λZ=>?_;refine dc3 (λ(xa2:Int) (xn2:Int) (ok2:Bool)=>{i:=[xa2,xn2],b:=[ok2]}) _ (λ_ _=>Jf Γ ((Go.Lib.cut s ([32]:bn)).1) lB) λZ xa2 xn2 ok2 qd2=>?_;refine bA λbk5=>?_;refine dc3 (λ(xa3:Int) (xn3:Int) (ok3:Bool)=>{i:=[xa3,xn3],b:=[ok3]}) _ (λ_ _=>Jf Γ ((Go.Lib.cut ((Go.Lib.cut s ([32]:bn)).2.1) ([32]:bn)).1) lB) λZ xa3 xn3 ok3 qd3=>?_;refine bA λbk6=>?_;refine bo (ok2=true) rfl (λcd1=>?_) λcd1=>?_
 .refine bo (ok3=true) rfl (λcd2=>?_) λcd2=>?_
  .have j4:∀(Z:Hp) (_:ok2=true/\ok3=true/\OrdI c0 c1 c2 c3 xa2 xn2 xa3 xn3),den (PA Γ R s ri rd RM ci cd CM CE NA kd c0 c1 c2 c3 nm M Z0 l) (.stop [1,1,1,1,1,1,1] HP HQ) ⟨9,6,4,4,7,1⟩ (va {i:=[kd,c0,c1,c2,c3,xa2,xn2,xa3,xn3],t:=[s,nm,((Go.Lib.cut s ([32]:bn)).1),((Go.Lib.cut s ([32]:bn)).2.1),((Go.Lib.cut ((Go.Lib.cut s ([32]:bn)).2.1) ([32]:bn)).1),((Go.Lib.cut ((Go.Lib.cut s ([32]:bn)).2.1) ([32]:bn)).2.1)],b:=[((Go.Lib.cut s ([32]:bn)).2.2),((Go.Lib.cut ((Go.Lib.cut s ([32]:bn)).2.1) ([32]:bn)).2.2),ok2,ok3],r:=[ri,rd,ci,cd],n:=[R,RM,CM,CE,NA,bk5,bk6],a:=[stA CE Γ M]}) Z:=by
    intro Z j4i;refine yd [1,1,1,1,1,1,1] HP HQ [] ⟨9,6,4,4,7,1⟩ (.call 70 [vT 5] [] (.tup [vT 6,vB 4]) [] ⟨9,7,5,4,7,1⟩<|.fork (.bv 4) (.call 71 [vT 6] [] (.tup [.agg OG,vI 28]) [.asr 1] ⟨29,10,11,5,7,2⟩<|.new<|.fork (.eq (.v 28) (.z 0)) (.fork (.eq (.v 9) (.z 0)) (.ret (Tz) px)<|.call 31 [.ptr 3 0,.agg [vI 5,vI 6,vI 7,vI 8],.agg OG] [.asr 0,.asr 1] (vI 29) [.asr 2,.asr 3] ⟨30,10,11,5,8,4⟩<|.call 72 [vI 29] [] (vI 30) [] ⟨31,10,11,5,8,4⟩<|.ret (vI 30) [.blk 0 [.raw 0,.raw 1,.map 1,.raw 2,.raw 3,.map 2,.ptr 3 0,.ptr 4 0,vI 0,vI 5,vI 6,vI 7,vI 8,vT 1] 47,.asr 2])<|.ret (Tz) px)<|.ret (Tz) px) 100000 bm (λ_ h=>by cases h) ?_;refine dc2 (λ(x5:bn) (ok5:Bool)=>{t:=[x5],b:=[ok5]}) _ (λ_ _=>Pb Γ ((Go.Lib.cut ((Go.Lib.cut s ([32]:bn)).2.1) ([32]:bn)).2.1) lB lB) λZ x5 ok5 qd5=>?_;refine bo (ok5=true) rfl (λcd1=>?_) λcd1=>?_
    .refine Pe (λ(ck6:Int) (vk6:Int) (m6:Int) (e6:Int) (tx6:bn) (cb6:Bool) (f6:Int) (x6:ND) (K6:SV) (er6:Int) (ks6:(List Tr))=>{i:=[ck6,vk6,m6,e6,f6,x6.k,x6.v0,x6.v1,x6.v2,x6.v5,x6.a0,x6.a1,x6.a2,x6.a3,x6.b0,x6.b1,x6.b2,x6.b3,x6.rows,er6],t:=[tx6,x6.v3,x6.name],b:=[cb6,x6.v4,x6.a4,x6.a5,x6.b4,x6.b5],r:=[K6],a:=[br Γ (oneS K6) ks6]}) _ (λ_ _=>SE Γ x5 lB) λZ ck6 vk6 m6 e6 tx6 cb6 f6 x6 K6 er6 ks6 qd6=>?_;refine bA λbk7=>?_;refine bo (er6=0) rfl (λcd2=>?_) λcd2=>?_
     .refine bo (ck6=0) rfl (λcd3=>?_) λcd3=>?_
      .exact an λh hs=>⟨6,c0,c1,c2,c3,M,yG,T0,hs⟩
      .refine dc3 (λ(er7:Int) (M27:(List (CK×CT))) (K27:SV)=>{i:=[er7],a:=[stA CE Γ M27,br Γ (oneS K6) ks6]}) _ (λ_ _=>QN Γ CE xa2 xn2 xa3 xn3 ck6 vk6 m6 e6 tx6 cb6 f6 x6 K6 M ks6 lB lB lB lB lB lB lB) λZ er7 M27 K27 qd7=>?_;refine cU {i:=[(if er7=0\/er7=5 then er7 else 6)]} (λl h hs=>Qv Γ er7 hs) ?_;exact an λh hs=>⟨(if er7=0\/er7=5 then er7 else 6),xa2,xn2,xa3,xn3,M27,yG,rfl,hs⟩
     .exact an λh hs=>⟨6,c0,c1,c2,c3,M,yG,T0,hs⟩
    .exact an λh hs=>⟨6,c0,c1,c2,c3,M,yG,T0,hs⟩
   refine bo (((c0=0)/\(c1=0))/\((c2=0)/\(c3=0))) rfl (λcd3=>?_) λcd3=>?_
   .exact bu (j4 _ lB) rfl rfl
   .refine cU {i:=[(dt xa2 xn2 c0 c1)]} (λl h hs=>OB Γ xa2 xn2 c0 c1 hs) ?_;refine bo ((dt xa2 xn2 c0 c1)<0) rfl (λcd4=>?_) λcd4=>?_
    .exact an λh hs=>⟨6,c0,c1,c2,c3,M,yG,T0,hs⟩
    .refine bo ((dt xa2 xn2 c0 c1)=0) rfl (λcd5=>?_) λcd5=>?_
     .refine cU {i:=[(dt xa3 xn3 c2 c3)]} (λl h hs=>OB Γ xa3 xn3 c2 c3 hs) ?_;refine bo ((dt xa3 xn3 c2 c3)<=0) rfl (λcd6=>?_) λcd6=>?_
      .exact an λh hs=>⟨6,c0,c1,c2,c3,M,yG,T0,hs⟩
      .exact bu (j4 _ lB) rfl rfl
     .exact bu (j4 _ lB) rfl rfl
  .exact an λh hs=>⟨6,c0,c1,c2,c3,M,yG,T0,hs⟩
 .exact an λh hs=>⟨6,c0,c1,c2,c3,M,yG,T0,hs⟩
structure LastN(N:List (bn×NT))(nm:bn):Prop where
 a:(N=[]/\nm=[])\/∃l t,N=l++[(nm,t)]
structure NameQ(s:bn)(N N2:List (bn×NT))(nm2:bn):Prop where
 o:NtOk N2
 l:LastN N2 nm2
 e:∃c:NT,N2=N++[(nm2,c)]/\s=nm2++32::ft.esc (codeT (Tr.mk c.x c.ks))
theorem Nx{N:List (bn×NT)}{nm nm2:bn}{c:NT}(w:NtOk N)(hl:LastN N nm)(hc:TrOk c)(hm:((mset N nm2 c).length:Int)<=100)(h:¬leB nm2 nm=true):mset N nm2 c=N++[(nm2,c)]/\NtOk (mset N nm2 c)/\LastN (mset N nm2 c) nm2:=by
 have h0:nm<nm2:=p8.1 (by simpa using h);have ha:∀y∈N.map Prod.fst,y<nm2:=by
  rcases hl.a with⟨rfl,_⟩|⟨l,t,rfl⟩
  .intro y hy;cases hy
  .intro y hy;have hs:=w.s;rw[aH,ax,aY]at hy hs;rcases List.mem_append.1 hy with hy|hy
   .exact List.lt_trans (p8.1 ((List.pairwise_append.1 hs).2.2 y hy _ (List.mem_singleton.2 rfl))) h0
   .rw[List.mem_singleton.1 hy];exact h0
 have e:mset N nm2 c=N++[(nm2,c)]:=xD λhh=>List.lt_irrefl _ (ha _ hh);refine⟨e,⟨?_,?_,hm⟩,⟨.inr ⟨N,c,e⟩⟩⟩
 .rw[e,aH,ax,aY];exact List.pairwise_append.2 ⟨w.s,List.pairwise_singleton _ _,λa h1 b h2=>by rw[List.mem_singleton.1 h2];exact p8.2 (ha a h1)⟩
 .rw[e];intro y hy;rcases List.mem_append.1 hy with hy|hy
  .exact w.c y hy
  .rw[List.mem_singleton.1 hy];exact hc
theorem G0(t:Tr):codeT t≠[]:=by cases t;rw[codeT];simp
theorem NC{s x:bn}{N N2:List (bn×NT)}{nm:bn}{X:ND}{ks:List Tr}{er:Int}(w:NtOk N)(hl:LastN N nm)(hp:PlainE (Go.Lib.cut s [32]).2.1 x)(hx:(x.length:Int)<=3000)(hd:DecI x (Tr.mk X ks))(ho:OkT (Tr.mk X ks))(hn:(sizeL ks:Int)<=5000)(h:¬leB (Go.Lib.cut s [32]).1 nm=true)(q:SetQ er N N2 (Go.Lib.cut s [32]).1 X ks)(h0:er=0):NameQ s N N2 (Go.Lib.cut s [32]).1:=by
 obtain⟨K,rfl⟩:=q.a h0;have hc:TrOk (NT.mk X ks K):=⟨hn,ho,⟨hd.c,by rw[hd.t];exact hx⟩⟩;obtain⟨q1,q2,q3⟩:=Nx w hl hc q.l h;refine⟨q2,q3,_,q1,?_⟩;have f1:(Go.Lib.cut s [32]).2.2=true:=by
  cases hh:(Go.Lib.cut s [32]).2.2 with
  |true=>rfl
  |false=>
   exfalso;have e1:=(ia (by rw[hh];simp:¬(Go.Lib.cut s [32]).2.2=true)).1;rw[e1]at hp;have:=rE hp.e;rw[this]at hd;exact G0 _ hd.t
 show s=_++32::ft.esc (codeT (Tr.mk X ks));rw[hd.t,hp.e];exact(gm f1).1
theorem Gg{er:Int}{Q:Prop}(k:er=0->Q):((if er=0\/er=5 then er else 6)=0\/(if er=0\/er=5 then er else 6)=5\/(if er=0\/er=5 then er else 6)=6)/\((if er=0\/er=5 then er else 6)=0->Q):=by
 split
 .rename_i h;exact⟨h.elim .inl λh=>.inr (.inl h),k⟩
 .exact⟨.inr (.inr rfl),λh=>by cases h⟩
abbrev Pd(Γ:Glob)(R:Nat)(s:bn)(ri rd:SV)(RM:Nat)(ci cd:SV)(CM CE NA:Nat)(kd c0:Int)(c1 c2 c3:Int)(nm:bn)(N:List (bn×NT)):TG:=λl Zq vq hq=>∃er:Int,∃nm2:bn,∃N2:List (bn×NT),((er=0\/er=5\/er=6)/\(er=0->NameQ s N N2 nm2))/\vq=iV er/\St Zq (own R (.cells [(oneS ri),(oneS rd),.map RM,(oneS ci),(oneS cd),.map CM,.ptr CE 0,.ptr NA 0,iV kd,iV c0,iV c1,iV c2,iV c3,sV nm2] 47)::tbA NA Γ N2::l) hq
theorem PF(R:Nat)(s:bn)(ri rd:SV)(RM:Nat)(ci cd:SV)(CM CE NA:Nat)(kd c0:Int)(c1 c2 c3:Int)(nm:bn)(N:List (bn×NT))(hs0:(s.length:Int)<=2990/\(10:UInt8)∉s)(hst:NtOk N)(hl:LastN N nm)(hs:St Z0 (own R (.cells [(oneS ri),(oneS rd),.map RM,(oneS ci),(oneS cd),.map CM,.ptr CE 0,.ptr NA 0,iV kd,iV c0,iV c1,iV c2,iV c3,sV nm] 47)::tbA NA Γ N::l) h):RC Γ Z0 36 [.ptr R 0,sV s] h (Pd Γ R s ri rd RM ci cd CM CE NA kd c0 c1 c2 c3 nm N l):=by
 refine bL Tryz.f36 Tryz.func36 [.ptr 0 0,vT 0] px ⟨5,2,0,4,5,1⟩ (va {i:=[kd,c0,c1,c2,c3],t:=[s,nm],r:=[ri,rd,ci,cd],n:=[R,RM,CM,CE,NA],a:=[tbA NA Γ N]}) (.call 11 [vT 0,.txt (.tl [32])] [] (.tup [vT 2,vT 3,vB 0]) [] ⟨5,4,1,4,5,1⟩<|.call 70 [vT 3] [] (.tup [vT 4,vB 1]) [] ⟨5,5,2,4,5,1⟩<|.fork (.bv 1) (.row (.bin .leq 9 (vT 2) (vT 1)) [] (vB 2) ⟨5,5,3,4,5,1⟩<|.fork (.bv 2) (.ret (Tz) px)<|.call 73 [vT 4] [] (.tup [.agg OC,vI 19]) [.asr 1] ⟨20,7,8,5,5,2⟩<|.new<|.fork (.eq (.v 19) (.z 0)) (.call 74 [.ptr 4 0,vT 2,.agg OC] [.asr 0,.asr 1] (vI 20) [.asr 2,.asr 3] ⟨21,7,8,5,6,4⟩<|.call 72 [vI 20] [] (vI 21) [] ⟨22,7,8,5,6,4⟩<|.ret (vI 21) [.blk 0 [.raw 0,.raw 1,.map 1,.raw 2,.raw 3,.map 2,.ptr 3 0,.ptr 4 0,vI 0,vI 1,vI 2,vI 3,vI 4,vT 2] 47,.asr 2])<|.ret (Tz) px)<|.ret (Tz) px) hs ?_;refine dcU {t:=[((Go.Lib.cut s ([32]:bn)).1),((Go.Lib.cut s ([32]:bn)).2.1)],b:=[((Go.Lib.cut s ([32]:bn)).2.2)]} (λ_ _=>w5r Γ s ([32]:bn) sn) λZ=>?_;refine dc2 (λ(x1:bn) (ok1:Bool)=>{t:=[x1],b:=[ok1]}) _ (λ_ _=>Pb Γ ((Go.Lib.cut s ([32]:bn)).2.1) sn sn) λZ x1 ok1 qd1=>?_;refine bo (ok1=true) rfl (λcd1=>?_) λcd1=>?_
 .refine iQ {b:=[(leB ((Go.Lib.cut s ([32]:bn)).1) nm)]} (λ_ xo yo=>Im ((Go.Lib.cut s ([32]:bn)).1) nm xo yo) ?_;refine bo ((leB ((Go.Lib.cut s ([32]:bn)).1) nm)=true) rfl (λcd2=>?_) λcd2=>?_
  .exact an λh hs=>⟨6,nm,N,sn,T0,hs⟩
  .refine dc4 (λ(x2:ND) (K2:SV) (e2:Int) (ks2:(List Tr))=>{i:=[x2.k,x2.v0,x2.v1,x2.v2,x2.v5,x2.a0,x2.a1,x2.a2,x2.a3,x2.b0,x2.b1,x2.b2,x2.b3,x2.rows,e2],t:=[x2.v3,x2.name],b:=[x2.v4,x2.a4,x2.a5,x2.b4,x2.b5],r:=[K2],a:=[br Γ (oneS K2) ks2]}) _ (λ_ _=>LH Γ x1 sn) λZ x2 K2 e2 ks2 qd2=>?_;refine bA λbk5=>?_;refine bo (e2=0) rfl (λcd3=>?_) λcd3=>?_
   .refine dc2 (λ(er3:Int) (N23:(List (bn×NT)))=>{i:=[er3],a:=[tbA NA Γ N23,br Γ (oneS K2) ks2]}) _ (λ_ _=>Q8 Γ NA ((Go.Lib.cut s ([32]:bn)).1) x2 K2 N ks2 sn sn) λZ er3 N23 qd3=>?_;refine cU {i:=[(if er3=0\/er3=5 then er3 else 6)]} (λl h hs=>Qv Γ er3 hs) ?_;exact an λh hs=>⟨(if er3=0\/er3=5 then er3 else 6),((Go.Lib.cut s ([32]:bn)).1),N23,sn,rfl,hs⟩
   .exact an λh hs=>⟨6,nm,N,sn,T0,hs⟩
 .exact an λh hs=>⟨6,nm,N,sn,T0,hs⟩
abbrev Rb:List MI:=[.blk 0 [.raw 0,.raw 1,.map 1,.raw 2,.raw 3,.map 2,.ptr 3 0,.ptr 4 0,vI 0,vI 1,vI 2,vI 3,vI 4,vT 1] 47,.asr 0,.asr 1,.asr 2,.asr 3,.asr 4,.asr 5,.asr 6,.asr 7]
abbrev J8:List MI:=[.blk 0 [.raw 4,.raw 5,.map 1,.raw 6,.raw 7,.map 2,.ptr 3 0,.ptr 4 0,vI 5,vI 6,vI 7,vI 8,vI 9,vT 4] 47,.asr 0,.asr 1,.asr 2,.asr 3,.asr 4,.asr 5,.asr 6,.asr 7]
abbrev PD:List MI:=[.blk 0 [.raw 8,.raw 9,.map 1,.raw 10,.raw 11,.map 2,.ptr 3 0,.ptr 4 0,vI 11,vI 12,vI 13,vI 14,vI 15,vT 5] 47,.asr 8,.asr 9,.asr 10]
abbrev Rn:List MI:=[.blk 0 [.raw 8,.raw 9,.map 1,.raw 10,.raw 11,.map 2,.ptr 3 0,.ptr 4 0,vI 11,vI 12,vI 13,vI 14,vI 15,vT 5] 47,.asr 8]
abbrev IV:List MI:=[.blk 0 [.raw 0,.raw 1,.map 1,.raw 2,.raw 3,.map 2,.ptr 3 0,.ptr 4 0,vI 0,vI 1,vI 2,vI 3,vI 4,vT 1] 47]
abbrev I7:List MI:=[.blk 0 [.raw 4,.raw 5,.map 1,.raw 6,.raw 7,.map 2,.ptr 3 0,.ptr 4 0,vI 5,vI 6,vI 7,vI 8,vI 9,vT 4] 47]
abbrev IK:List XV:=[.raw 8,.raw 9,.map 1,.raw 10,.raw 11,.map 2,.ptr 3 0,.ptr 4 0,vI 11,vI 12,vI 13,vI 14,vI 15,vT 5]
abbrev ID:List XV:=[.raw 4,.raw 5,.map 1,.raw 6,.raw 7,.map 2,.ptr 3 0,.ptr 4 0,vI 5,vI 6,vI 7,vI 8,vI 9,vT 4]
theorem mK{P:Prop}(h:P:=by first|omega|with_reducible exact hr.r|with_reducible exact hr.c|with_reducible exact hr.st|with_reducible exact hr.lc|with_reducible exact hr.nt|with_reducible exact hr.ln|(have w0:=hr.l;dsimp only at w0;omega)|(have w1:=gq s 32;omega)|exact⟨by have w1:=gq s 32;omega,(fw hs0.2).2⟩|first|omega|(and_intros<;>intros<;>and_intros<;>first|omega|assumption|exact V1)):P:=h
theorem u2{P:Prop}(h:P:=by first|(have hk9:=of_decide_eq_true cd2;obtain⟨q0,q1,q2,q3,q4⟩:=qd2;have e1:=qd1;rw[bi hk9]at e1;subst e1;exact⟨q0,λh0=>F6 hr cd1 hk9 (q1 h0) q2 q3⟩)|(have hk9:=of_decide_eq_true cd3;obtain⟨q0,q1,q2,q3,q4⟩:=qd4;have e1:=qd3;rw[bi hk9]at e1;subst e1;exact⟨q0,λh0=>Hz hr cd2 hk9 (q1 h0) q2 q3⟩)|(have hk9:=of_decide_eq_true cd4;obtain⟨q0,q1⟩:=qd6;have e1:=qd5;rw[bi hk9]at e1;subst e1;exact⟨bj,λh0=>D8 hr cd3 hk9 (q1 h0)⟩)|(have hk9:=of_decide_eq_true cd5;obtain⟨q0,q1⟩:=qd8;have e1:=qd7;rw[bi hk9]at e1;subst e1;exact⟨bj,λh0=>DI hr cd4 (q1 h0)⟩)|omega|with_reducible exact hr.r|with_reducible exact hr.c|with_reducible exact hr.st|with_reducible exact hr.lc|with_reducible exact hr.nt|with_reducible exact hr.ln|(have w0:=hr.l;dsimp only at w0;omega)|(have w1:=gq s 32;omega)|exact⟨by have w1:=gq s 32;omega,(fw hs0.2).2⟩|first|omega|(and_intros<;>intros<;>and_intros<;>first|omega|assumption|exact V1)):P:=h
structure RS where
 Is:List IdL
 Ds:List IdL
 Js:List IdL
 Es:List IdL
 Ms:List (IdL×Bool)
 Ns:List (IdL×Bool)
 M:List (CK×CT)
 N:List (bn×NT)
 kd:Int
 c0:Int
 c1:Int
 c2:Int
 c3:Int
 nm:bn
open Classical in
noncomputable def eB(w:bn)(Is Ds:List IdL):bn:=Is.flatMap λv=>(w++32::(idB v.1 v.2++(if v∈Ds then[32,100,101,97,100]else[])))++[10]
def cellsL(M:List (CK×CT)):bn:=M.flatMap λy=>([99,101,108,108]++32::(idB y.1.1 y.1.2.1++32::(idB y.1.2.2.1 y.1.2.2.2++32::ft.esc (codeTx y.2))))++[10]
def namesL(N:List (bn×NT)):bn:=N.flatMap λy=>([110,97,109,101]++32::(y.1++32::ft.esc (codeT (Tr.mk y.2.x y.2.ks))))++[10]
noncomputable def bodyR(r:RS):bn:=eB [114,111,119] r.Is r.Ds++(eB [99,111,108] r.Js r.Es++(cellsL r.M++namesL r.N))
structure RdI(x:RS):Prop where
 r:SideI x.Is x.Ds x.Ms
 c:SideI x.Js x.Es x.Ns
 l:(x.Is.length:Int)<=1000/\(x.Ds.length:Int)<=x.Is.length/\(x.Js.length:Int)<=1000/\(x.Es.length:Int)<=x.Js.length
 st:StOk x.M
 lc:LastC x.M x.c0 x.c1 x.c2 x.c3
 nt:NtOk x.N
 ln:LastN x.N x.nm
 k:(x.kd<3->x.Js=[])/\(x.kd<4->x.M=[])/\(x.kd<5->x.N=[])
structure LineQ(s:bn)(r r2:RS):Prop where
 i:RdI r2
 e:bodyR r2=bodyR r++(s++[10])
section
variable {s:bn}{w:bn}
theorem nL(h:(Go.Lib.cut s [32]).1=w)(hn:(Go.Lib.cut s [32]).2.1≠[]):s=w++32::(Go.Lib.cut s [32]).2.1:=by
 have f1:(Go.Lib.cut s [32]).2.2=true:=by
  cases hh:(Go.Lib.cut s [32]).2.2 with
  |true=>rfl
  |false=>exact absurd (by rw[(ia (by rw[hh];simp:¬(Go.Lib.cut s [32]).2.2=true)).1]) hn
 have:=(gm f1).1;rw[h]at this;exact this
theorem tg{Is Ds Is2 Ds2:List IdL}{Ms Ms2:List (IdL×Bool)}{t:bn}(w0:SideI Is Ds Ms)(q:SideQ t Is Ds Is2 Ds2 Ms2)(w:bn):eB w Is2 Ds2=eB w Is Ds++((w++32::t)++[10])/\t≠[]:=by
 obtain⟨v,e1,h⟩:=q.r;have hv:v∉Is:=by
  have hn:=q.w.n;rw[e1]at hn;exact λhm=>(List.nodup_append.1 hn).2.2 v hm v (List.mem_singleton.2 rfl) rfl
 have hvD:v∉Ds:=λh=>hv (w0.s v h);rcases h with⟨e2,ht⟩|⟨e2,ht⟩
 .refine⟨?_,by rw[ht];exact HO _ _⟩;rw[e1,e2]
  conv=>lhs;unfold eB
  rw[List.flatMap_append,List.flatMap_cons,List.flatMap_nil,List.append_nil,bh hvD,List.append_nil,ht];rfl
 .refine⟨?_,by rw[ht];simp[idB]⟩;rw[e1,e2];have hm:v∈Ds++[v]:=aO _ (List.mem_singleton.2 rfl)
  conv=>lhs;unfold eB
  rw[List.flatMap_append,List.flatMap_cons,List.flatMap_nil,List.append_nil,bi hm,ht];congr 1;unfold eB;have:∀y∈Is,((w++32::(idB y.1 y.2++(if y∈Ds++[v]then[32,100,101,97,100]else[])))++[10])=((w++32::(idB y.1 y.2++(if y∈Ds then[32,100,101,97,100]else[])))++[10]):=λy hy=>by
   by_cases hh:y∈Ds
   .rw[bi hh,bi (aK _ hh)]
   .rw[bh hh,bh λh=>(List.mem_append.1 h).elim hh λh=>hv (by rw[<-List.mem_singleton.1 h];exact hy)]
  rw[List.flatMap_def,List.flatMap_def,List.map_congr_left this]
end
section
variable {s:bn}{Is Ds Js Es Is2 Ds2:List IdL}{Ms Ns Ms2:List (IdL×Bool)}{M M2:List (CK×CT)}{N N2:List (bn×NT)}{kd c0 c1 c2 c3 d0 d1 d2 d3:Int}{nm nm2:bn}
theorem F6(i:RdI ⟨Is,Ds,Js,Es,Ms,Ns,M,N,kd,c0,c1,c2,c3,nm⟩)(hw:(Go.Lib.cut s [32]).1=[114,111,119])(hk:kd<=2)(q:SideQ (Go.Lib.cut s [32]).2.1 Is Ds Is2 Ds2 Ms2)(l1:(Is2.length:Int)<=1000)(l2:(Ds2.length:Int)<=Is2.length):LineQ s ⟨Is,Ds,Js,Es,Ms,Ns,M,N,kd,c0,c1,c2,c3,nm⟩ ⟨Is2,Ds2,Js,Es,Ms2,Ns,M,N,2,c0,c1,c2,c3,nm⟩:=by
 obtain⟨k1,k2,k3⟩:=i.k;have k1:Js=[]:=k1 (by show kd<3;omega);have k2:M=[]:=k2 (by show kd<4;omega);have k3:N=[]:=k3 (by show kd<5;omega);obtain⟨e1,e2⟩:=tg i.r q [114,111,119];refine⟨⟨q.w,i.c,⟨l1,l2,i.l.2.2⟩,i.st,i.lc,i.nt,i.ln,⟨λ_=>k1,λ_=>k2,λ_=>k3⟩⟩,?_⟩;have hs:=nL hw e2;show eB _ Is2 Ds2++(eB _ Js Es++(cellsL M++namesL N))=(eB _ Is Ds++(eB _ Js Es++(cellsL M++namesL N)))++(s++[10]);rw[e1,<-hs,k1,k2,k3];simp[eB,cellsL,namesL]
theorem Hz(i:RdI ⟨Is,Ds,Js,Es,Ms,Ns,M,N,kd,c0,c1,c2,c3,nm⟩)(hw:(Go.Lib.cut s [32]).1=[99,111,108])(hk:kd<=3)(q:SideQ (Go.Lib.cut s [32]).2.1 Js Es Is2 Ds2 Ms2)(l1:(Is2.length:Int)<=1000)(l2:(Ds2.length:Int)<=Is2.length):LineQ s ⟨Is,Ds,Js,Es,Ms,Ns,M,N,kd,c0,c1,c2,c3,nm⟩ ⟨Is,Ds,Is2,Ds2,Ms,Ms2,M,N,3,c0,c1,c2,c3,nm⟩:=by
 obtain⟨_,k2,k3⟩:=i.k;have k2:M=[]:=k2 (by show kd<4;omega);have k3:N=[]:=k3 (by show kd<5;omega);obtain⟨e1,e2⟩:=tg i.c q [99,111,108];refine⟨⟨i.r,q.w,⟨i.l.1,i.l.2.1,l1,l2⟩,i.st,i.lc,i.nt,i.ln,⟨λh=>absurd (show(3:Int)<3 from h) (by decide),λ_=>k2,λ_=>k3⟩⟩,?_⟩;have hs:=nL hw e2;show eB _ Is Ds++(eB _ Is2 Ds2++(cellsL M++namesL N))=(eB _ Is Ds++(eB _ Js Es++(cellsL M++namesL N)))++(s++[10]);rw[e1,<-hs,k2,k3];simp[cellsL,namesL]
theorem D8(i:RdI ⟨Is,Ds,Js,Es,Ms,Ns,M,N,kd,c0,c1,c2,c3,nm⟩)(hw:(Go.Lib.cut s [32]).1=[99,101,108,108])(hk:kd<=4)(q:CellQ (Go.Lib.cut s [32]).2.1 M M2 d0 d1 d2 d3):LineQ s ⟨Is,Ds,Js,Es,Ms,Ns,M,N,kd,c0,c1,c2,c3,nm⟩ ⟨Is,Ds,Js,Es,Ms,Ns,M2,N,4,d0,d1,d2,d3,nm⟩:=by
 obtain⟨_,_,k3⟩:=i.k;have k3:N=[]:=k3 (by show kd<5;omega);obtain⟨c,e1,e2⟩:=q.e;refine⟨⟨i.r,i.c,i.l,q.o,q.l,i.nt,i.ln,⟨λh=>absurd (show(4:Int)<3 from h) (by decide),λh=>absurd (show(4:Int)<4 from h) (by decide),λ_=>k3⟩⟩,?_⟩;have hs:=nL hw (by rw[e2];simp[idB]);show eB _ Is Ds++(eB _ Js Es++(cellsL M2++namesL N))=(eB _ Is Ds++(eB _ Js Es++(cellsL M++namesL N)))++(s++[10]);rw[e2]at hs;have e3:cellsL M2=cellsL M++(s++[10]):=by rw[e1,cellsL,List.flatMap_append,List.flatMap_cons,List.flatMap_nil,List.append_nil,<-hs];rfl
 rw[e3,k3];simp[namesL]
theorem DI(i:RdI ⟨Is,Ds,Js,Es,Ms,Ns,M,N,kd,c0,c1,c2,c3,nm⟩)(hw:(Go.Lib.cut s [32]).1=[110,97,109,101])(q:NameQ (Go.Lib.cut s [32]).2.1 N N2 nm2):LineQ s ⟨Is,Ds,Js,Es,Ms,Ns,M,N,kd,c0,c1,c2,c3,nm⟩ ⟨Is,Ds,Js,Es,Ms,Ns,M,N2,5,c0,c1,c2,c3,nm2⟩:=by
 obtain⟨c,e1,e2⟩:=q.e;refine⟨⟨i.r,i.c,i.l,i.st,i.lc,q.o,q.l,⟨λh=>absurd (show(5:Int)<3 from h) (by decide),λh=>absurd (show(5:Int)<4 from h) (by decide),λh=>absurd (show(5:Int)<5 from h) (by decide)⟩⟩,?_⟩;have hs:=nL hw (by rw[e2];simp);show eB _ Is Ds++(eB _ Js Es++(cellsL M++namesL N2))=(eB _ Is Ds++(eB _ Js Es++(cellsL M++namesL N)))++(s++[10]);rw[e2]at hs;have e3:namesL N2=namesL N++(s++[10]):=by rw[e1,namesL,List.flatMap_append,List.flatMap_cons,List.flatMap_nil,List.append_nil,<-hs];rfl
 rw[e3];simp
end
abbrev PG(Γ:Glob)(R:Nat)(s:bn)(ri rd:SV)(RM:Nat)(ci cd:SV)(CM CE NA:Nat)(kd c0:Int)(c1 c2 c3:Int)(nm:bn)(Is Ds Js Es:List IdL)(Ms Ns:List (IdL×Bool))(M:List (CK×CT))(N:List (bn×NT)):TG:=λl Zq vq hq=>∃er:Int,∃ri2:SV,∃rd2:SV,∃ci2:SV,∃cd2:SV,∃kd2:Int,∃d0:Int,∃d1:Int,∃d2:Int,∃d3:Int,∃nm2:bn,∃Is2:List IdL,∃Ds2:List IdL,∃Js2:List IdL,∃Es2:List IdL,∃Ms2:List (IdL×Bool),∃Ns2:List (IdL×Bool),∃M2:List (CK×CT),∃N2:List (bn×NT),((er=0\/er=4\/er=5\/er=6)/\(er=0->LineQ s ⟨Is,Ds,Js,Es,Ms,Ns,M,N,kd,c0,c1,c2,c3,nm⟩ ⟨Is2,Ds2,Js2,Es2,Ms2,Ns2,M2,N2,kd2,d0,d1,d2,d3,nm2⟩))/\vq=iV er/\St Zq (own R (.cells [(oneS ri2),(oneS rd2),.map RM,(oneS ci2),(oneS cd2),.map CM,.ptr CE 0,.ptr NA 0,iV kd2,iV d0,iV d1,iV d2,iV d3,sV nm2] 47)::lsA 43 2 idE (oneS ri2) Is2::lsA 43 2 idE (oneS rd2) Ds2::mpA idK bbE RM Ms2::lsA 43 2 idE (oneS ci2) Js2::lsA 43 2 idE (oneS cd2) Es2::mpA idK bbE CM Ns2::stA CE Γ M2::tbA NA Γ N2::l) hq
theorem Ob(R:Nat)(s:bn)(ri rd:SV)(RM:Nat)(ci cd:SV)(CM CE NA:Nat)(kd c0:Int)(c1 c2 c3:Int)(nm:bn)(Is Ds Js Es:List IdL)(Ms Ns:List (IdL×Bool))(M:List (CK×CT))(N:List (bn×NT))(hs0:(s.length:Int)<=2990/\(10:UInt8)∉s)(hr:RdI ⟨Is,Ds,Js,Es,Ms,Ns,M,N,kd,c0,c1,c2,c3,nm⟩)(hs:St Z0 (own R (.cells [(oneS ri),(oneS rd),.map RM,(oneS ci),(oneS cd),.map CM,.ptr CE 0,.ptr NA 0,iV kd,iV c0,iV c1,iV c2,iV c3,sV nm] 47)::lsA 43 2 idE (oneS ri) Is::lsA 43 2 idE (oneS rd) Ds::mpA idK bbE RM Ms::lsA 43 2 idE (oneS ci) Js::lsA 43 2 idE (oneS cd) Es::mpA idK bbE CM Ns::stA CE Γ M::tbA NA Γ N::l) h):RC Γ Z0 12 [.ptr R 0,sV s] h (PG Γ R s ri rd RM ci cd CM CE NA kd c0 c1 c2 c3 nm Is Ds Js Es Ms Ns M N l):=by
 refine bL Tryz.f12 Tryz.func12 [.ptr 0 0,vT 0] Rb ⟨5,2,0,4,5,8⟩ (va {i:=[kd,c0,c1,c2,c3],t:=[s,nm],r:=[ri,rd,ci,cd],n:=[R,RM,CM,CE,NA],a:=[lsA 43 2 idE (oneS ri) Is,lsA 43 2 idE (oneS rd) Ds,mpA idK bbE RM Ms,lsA 43 2 idE (oneS ci) Js,lsA 43 2 idE (oneS cd) Es,mpA idK bbE CM Ns,stA CE Γ M,tbA NA Γ N]}) (.call 11 [vT 0,.txt (.tl [32])] [] (.tup [vT 2,vT 3,vB 0]) [] ⟨5,4,1,4,5,8⟩<|.fork (.teq (.tv 2) (.tl [114,111,119])) (.call 33 [.ptr 0 0,I (.z 2)] IV (vB 1) I7 ⟨10,5,2,8,5,8⟩<|.fork (.bv 1) (.call 34 [.ptr 0 0,vT 3] [.blk 0 ID 47,.asr 0,.asr 1,.asr 2] (vI 10) PD ⟨16,6,2,12,5,11⟩<|.ret (vI 10) [.blk 0 IK 47,.asr 8,.asr 9,.asr 10,.asr 3,.asr 4,.asr 5,.asr 6,.asr 7])<|.ret (Tz) J8)<|.fork (.teq (.tv 2) (.tl [99,111,108])) (.call 33 [.ptr 0 0,I (.z 3)] IV (vB 1) I7 ⟨10,5,2,8,5,8⟩<|.fork (.bv 1) (.call 34 [.ptr 0 3,vT 3] [.blk 0 ID 47,.asr 3,.asr 4,.asr 5] (vI 10) PD ⟨16,6,2,12,5,11⟩<|.ret (vI 10) [.blk 0 IK 47,.asr 0,.asr 1,.asr 2,.asr 8,.asr 9,.asr 10,.asr 6,.asr 7])<|.ret (Tz) J8)<|.fork (.teq (.tv 2) (.tl [99,101,108,108])) (.call 33 [.ptr 0 0,I (.z 4)] IV (vB 1) I7 ⟨10,5,2,8,5,8⟩<|.fork (.bv 1) (.call 35 [.ptr 0 0,vT 3] [.blk 0 ID 47,.asr 6] (vI 10) Rn ⟨16,6,2,12,5,9⟩<|.ret (vI 10) [.blk 0 IK 47,.asr 0,.asr 1,.asr 2,.asr 3,.asr 4,.asr 5,.asr 8,.asr 7])<|.ret (Tz) J8)<|.fork (.teq (.tv 2) (.tl [110,97,109,101])) (.call 33 [.ptr 0 0,I (.z 5)] IV (vB 1) I7 ⟨10,5,2,8,5,8⟩<|.fork (.bv 1) (.call 36 [.ptr 0 0,vT 3] [.blk 0 ID 47,.asr 7] (vI 10) Rn ⟨16,6,2,12,5,9⟩<|.ret (vI 10) [.blk 0 IK 47,.asr 0,.asr 1,.asr 2,.asr 3,.asr 4,.asr 5,.asr 6,.asr 8])<|.ret (Tz) J8)<|.ret (Tz) Rb) hs ?_;refine dcU {t:=[((Go.Lib.cut s ([32]:bn)).1),((Go.Lib.cut s ([32]:bn)).2.1)],b:=[((Go.Lib.cut s ([32]:bn)).2.2)]} (λ_ _=>w5r Γ s ([32]:bn) mK) λZ=>?_;refine bo (((Go.Lib.cut s ([32]:bn)).1)=([114,111,119]:bn)) rfl (λcd1=>?_) λcd1=>?_
 .refine bS (λ(kd21:Int)=>{i:=[kd21,c0,c1,c2,c3],t:=[nm],b:=[(decide (kd<=2))],r:=[ri,rd,ci,cd]}) _ (λ_ _=>JR Γ R 2 ri rd RM ci cd CM CE NA kd c0 c1 c2 c3 nm) λZ kd21 qd1=>?_;refine bo ((decide (kd<=2))=true) rfl (λcd2=>?_) λcd2=>?_
  .refine dc6 (λ(e2:Int) (ri22:SV) (rd22:SV) (Is22:(List IdL)) (Ds22:(List IdL)) (Ms22:(List (IdL×Bool)))=>{i:=[e2,kd21,c0,c1,c2,c3],t:=[nm],r:=[ri22,rd22,ci,cd],a:=[lsA 43 2 idE (oneS ri22) Is22,lsA 43 2 idE (oneS rd22) Ds22,mpA idK bbE RM Ms22]}) _ (λ_ _=>SG Γ R ((Go.Lib.cut s ([32]:bn)).2.1) ri rd RM ci cd CM CE NA kd21 c0 c1 c2 c3 nm Is Ds Ms mK mK mK mK) λZ e2 ri22 rd22 Is22 Ds22 Ms22 qd2=>?_;exact an λh hs=>⟨e2,ri22,rd22,ci,cd,kd21,c0,c1,c2,c3,nm,Is22,Ds22,Js,Es,Ms22,Ns,M,N,u2,rfl,hs⟩
  .exact an λh hs=>⟨6,ri,rd,ci,cd,kd21,c0,c1,c2,c3,nm,Is,Ds,Js,Es,Ms,Ns,M,N,u2,T0,hs⟩
 .refine bo (((Go.Lib.cut s ([32]:bn)).1)=([99,111,108]:bn)) rfl (λcd2=>?_) λcd2=>?_
  .refine bS (λ(kd23:Int)=>{i:=[kd23,c0,c1,c2,c3],t:=[nm],b:=[(decide (kd<=3))],r:=[ri,rd,ci,cd]}) _ (λ_ _=>JR Γ R 3 ri rd RM ci cd CM CE NA kd c0 c1 c2 c3 nm) λZ kd23 qd3=>?_;refine bo ((decide (kd<=3))=true) rfl (λcd3=>?_) λcd3=>?_
   .refine dc6 (λ(e4:Int) (ci24:SV) (cd24:SV) (Is24:(List IdL)) (Ds24:(List IdL)) (Ms24:(List (IdL×Bool)))=>{i:=[e4,kd23,c0,c1,c2,c3],t:=[nm],r:=[ri,rd,ci24,cd24],a:=[lsA 43 2 idE (oneS ci24) Is24,lsA 43 2 idE (oneS cd24) Ds24,mpA idK bbE CM Ms24]}) _ (λ_ _=>R4 Γ R ((Go.Lib.cut s ([32]:bn)).2.1) ri rd RM ci cd CM CE NA kd23 c0 c1 c2 c3 nm Js Es Ns mK mK mK mK) λZ e4 ci24 cd24 Is24 Ds24 Ms24 qd4=>?_;exact an λh hs=>⟨e4,ri,rd,ci24,cd24,kd23,c0,c1,c2,c3,nm,Is,Ds,Is24,Ds24,Ms,Ms24,M,N,u2,rfl,hs⟩
   .exact an λh hs=>⟨6,ri,rd,ci,cd,kd23,c0,c1,c2,c3,nm,Is,Ds,Js,Es,Ms,Ns,M,N,u2,T0,hs⟩
  .refine bo (((Go.Lib.cut s ([32]:bn)).1)=([99,101,108,108]:bn)) rfl (λcd3=>?_) λcd3=>?_
   .refine bS (λ(kd25:Int)=>{i:=[kd25,c0,c1,c2,c3],t:=[nm],b:=[(decide (kd<=4))],r:=[ri,rd,ci,cd]}) _ (λ_ _=>JR Γ R 4 ri rd RM ci cd CM CE NA kd c0 c1 c2 c3 nm) λZ kd25 qd5=>?_;refine bo ((decide (kd<=4))=true) rfl (λcd4=>?_) λcd4=>?_
    .refine dc6 (λ(er6:Int) (d06:Int) (d16:Int) (d26:Int) (d36:Int) (M26:(List (CK×CT)))=>{i:=[er6,kd25,d06,d16,d26,d36],t:=[nm],r:=[ri,rd,ci,cd],a:=[stA CE Γ M26]}) _ (λ_ _=>Oh Γ R ((Go.Lib.cut s ([32]:bn)).2.1) ri rd RM ci cd CM CE NA kd25 c0 c1 c2 c3 nm M mK mK mK) λZ er6 d06 d16 d26 d36 M26 qd6=>?_;exact an λh hs=>⟨er6,ri,rd,ci,cd,kd25,d06,d16,d26,d36,nm,Is,Ds,Js,Es,Ms,Ns,M26,N,u2,rfl,hs⟩
    .exact an λh hs=>⟨6,ri,rd,ci,cd,kd25,c0,c1,c2,c3,nm,Is,Ds,Js,Es,Ms,Ns,M,N,u2,T0,hs⟩
   .refine bo (((Go.Lib.cut s ([32]:bn)).1)=([110,97,109,101]:bn)) rfl (λcd4=>?_) λcd4=>?_
    .refine bS (λ(kd27:Int)=>{i:=[kd27,c0,c1,c2,c3],t:=[nm],b:=[(decide (kd<=5))],r:=[ri,rd,ci,cd]}) _ (λ_ _=>JR Γ R 5 ri rd RM ci cd CM CE NA kd c0 c1 c2 c3 nm) λZ kd27 qd7=>?_;refine bo ((decide (kd<=5))=true) rfl (λcd5=>?_) λcd5=>?_
     .refine dc3 (λ(er8:Int) (nm28:bn) (N28:(List (bn×NT)))=>{i:=[er8,kd27,c0,c1,c2,c3],t:=[nm28],r:=[ri,rd,ci,cd],a:=[tbA NA Γ N28]}) _ (λ_ _=>PF Γ R ((Go.Lib.cut s ([32]:bn)).2.1) ri rd RM ci cd CM CE NA kd27 c0 c1 c2 c3 nm N mK mK mK) λZ er8 nm28 N28 qd8=>?_;exact an λh hs=>⟨er8,ri,rd,ci,cd,kd27,c0,c1,c2,c3,nm28,Is,Ds,Js,Es,Ms,Ns,M,N28,u2,rfl,hs⟩
     .exact an λh hs=>⟨6,ri,rd,ci,cd,kd27,c0,c1,c2,c3,nm,Is,Ds,Js,Es,Ms,Ns,M,N,u2,T0,hs⟩
    .exact an λh hs=>⟨6,ri,rd,ci,cd,kd,c0,c1,c2,c3,nm,Is,Ds,Js,Es,Ms,Ns,M,N,u2,T0,hs⟩
abbrev ER:List MI:=[.asr 13,.asr 8,.asr 9,.asr 10,.asr 11,.asr 12,.blk 2 [.raw 0,.raw 1,.map 3,.raw 2,.raw 3,.map 4,.ptr 0 0,.ptr 1 0,vI 1,vI 2,vI 3,vI 4,vI 5,vT 2] 47,.asr 15,.asr 14]
abbrev Qd:List XV:=[.raw 4,.raw 5,.map 3,.raw 6,.raw 7,.map 4,.ptr 0 0,.ptr 1 0,vI 7,vI 8,vI 9,vI 10,vI 11,vT 5]
abbrev QC:List XV:=[.raw 4,.raw 5,.map 3,.raw 6,.raw 7,.map 4,.ptr 0 0,.ptr 1 0,vI 6,vI 7,vI 8,vI 9,vI 10,vT 5]
abbrev QT:List XV:=[.raw 0,.raw 1,.map 3,.raw 2,.raw 3,.map 4,.ptr 0 0,.ptr 1 0,vI 1,vI 2,vI 3,vI 4,vI 5,vT 2]
abbrev QF:List XV:=[.raw 14,.raw 15,.lit (.map none),.lit mt,.lit mt]
abbrev Mx:List (Nat×XV):=[(0,vT 4),(5,.ptr 2 0),(6,vB 0),(7,I (.add (.v 0) (.z 1)))]
abbrev QI:List XV:=[.raw 8,.raw 9,.lit (.map none),.lit mt,.lit mt]
abbrev OT:List (Nat×XV):=[(0,vT 1),(5,.ptr 2 0),(6,vB 0),(7,vI 0)]
theorem eQ{P:Prop}(h:P:=by first|(have w1:=rT (by assumption:(Go.Lib.cut tx [10]).2.2=true);omega)|(have w1:=hi.le;have w2:=BB text;omega)|(have w1:=hi.len;omega)|(have w1:=hi.i.l;dsimp only at w1;omega)|with_reducible exact IS|with_reducible exact hi.i.r|with_reducible exact hi.i.c|with_reducible exact hi.i|with_reducible exact hi.line (by assumption) ht (by assumption)|exact A6 hi (by assumption) (by assumption) (by unfold headB;assumption)|with_reducible exact DV hi (by assumption) (by assumption) (by assumption) (by assumption)|(obtain⟨q1,q2⟩:=qd111;with_reducible exact z8 hi (by assumption) (by assumption) (by assumption) (q2 (by assumption)))|with_reducible exact DU hi (by assumption)|with_reducible exact AD hi (by assumption)|with_reducible exact yF hi (.inl rfl)|(obtain⟨q1,q2⟩:=qd111;with_reducible exact yF hi bj)|exact H4 hi (by assumption) (by assumption) qd101 qd102|omega|(and_intros<;>intros<;>and_intros<;>first|omega|assumption|exact V1)):P:=h
theorem AK{P:Prop}(h:P:=by first|rfl|(rw[bP];rfl)):P:=h
theorem A9{P:Prop}(h:P:=by first|exact hs|(rw[bP];exact hs)):P:=h
def headB:bn:=[99,111,117,110,116,101,114,112,97,110,101,32,49]
def endB:bn:=[101,110,100,10]
def cntL(l:bn):Int:=(l.count 10:Nat)
noncomputable def preT(en:Bool)(n:Int)(r:RS):bn:=if n=1 then[]else headB++10::(bodyR r++(if en=true then endB else[]))
structure ReadJ(text tx:bn)(en:Bool)(n:Int)(r:RS):Prop where
 i:RdI r
 t:text=preT en n r++tx
 c:1<=n/\n=cntL (preT en n r)+1
 z:n=1->en=false/\bodyR r=[]
noncomputable def axOf(Is Ds:List IdL):AX:=List.zip Is (Is.map λx=> !decide (x∈Ds))
structure ReadQ(text:bn)(n e:Int)(A B:AX)(M:List (CK×CT))(N:List (bn×NT)):Prop where
 ok:e=0->n=0/\∃r:RS,RdI r/\text=headB++10::(bodyR r++endB)/\A=axOf r.Is r.Ds/\B=axOf r.Js r.Es/\M=r.M/\N=r.N
 no:e≠0->(e=13\/e=15\/e=6\/e=4\/e=5)/\1<=n/\n<=cntL text+1/\(e=15->n=1)/\(e=13->n=cntL text+1)
theorem lI(a b:bn):cntL (a++b)=cntL a+cntL b:=by unfold cntL;rw[List.count_append];omega
theorem Fo(a:bn):0<=cntL a:=by unfold cntL;omega
theorem Gn{a:bn}(h:(10:UInt8)∉a):cntL a=0:=by unfold cntL;rw[List.count_eq_zero.2 h];rfl
theorem rS{a:bn}(h:(10:UInt8)∉a):cntL (a++[10])=1:=by rw[lI,Gn h];rfl
theorem BB(a:bn):cntL a<=(a.length:Int):=by unfold cntL;have:=List.count_le_length (a:=(10:UInt8)) (l:=a);omega
section
variable {text tx:bn}{en:Bool}{n:Int}{r r2:RS}{A B:AX}{M:List (CK×CT)}{N:List (bn×NT)}
theorem Td:RdI ⟨[],[],[],[],[],[],[],[],0,0,0,0,0,[]⟩:=by
 have hs:SideI [] [] []:=⟨List.nodup_nil,List.nodup_nil,(λx h=>by cases h),(λh=>by cases h),(λx=>by simp[mget,dZ]),(λx h=>by cases h)⟩;exact⟨hs,hs,by simp,⟨List.Pairwise.nil,(λy h=>by cases h),by simp,(λy h=>by cases h)⟩,⟨.inl ⟨rfl,rfl,rfl,rfl,rfl⟩⟩,⟨List.Pairwise.nil,(λy h=>by cases h),by simp⟩,⟨.inl ⟨rfl,rfl⟩⟩,⟨λ_=>rfl,λ_=>rfl,λ_=>rfl⟩⟩
theorem IS:ReadJ text text false 1 ⟨[],[],[],[],[],[],[],[],0,0,0,0,0,[]⟩:=⟨Td,by simp[preT],by simp[preT,cntL],λ_=>⟨rfl,by simp[bodyR,eB,cellsL,namesL]⟩⟩
theorem E7(h:(Go.Lib.cut tx [10]).2.2=true):tx=(Go.Lib.cut tx [10]).1++([10]++(Go.Lib.cut tx [10]).2.1):=(gm h).1
theorem A6(w:ReadJ text tx en n r)(h:(Go.Lib.cut tx [10]).2.2=true)(h1:n=1)(hl:(Go.Lib.cut tx [10]).1=headB):ReadJ text (Go.Lib.cut tx [10]).2.1 en (n+1) r:=by
 obtain⟨z1,z2⟩:=w.z h1;have e:=E7 h;have hn2:¬n+1=1:=by omega
 have ep:preT en (n+1) r=headB++[10]:=by rw[preT,bh hn2,z2,z1];rfl
 refine⟨w.i,?_,⟨by omega,?_⟩,λh=>absurd h hn2⟩
 .rw[ep,w.t,preT,bi h1,List.nil_append]
  conv=>lhs;rw[e,hl]
  simp
 .rw[ep,rS (by decide),h1]
theorem DV(w:ReadJ text tx en n r)(h:(Go.Lib.cut tx [10]).2.2=true)(h1:¬n=1)(h2:¬en=true)(hl:(Go.Lib.cut tx [10]).1=[101,110,100]):ReadJ text (Go.Lib.cut tx [10]).2.1 true (n+1) r:=by
 have e:=E7 h;have hn:=w.c;have hn2:¬n+1=1:=by omega
 have ep:preT true (n+1) r=preT en n r++([101,110,100]++[10]):=by rw[preT,preT,bh hn2,bh h1,bh h2];simp[endB]
 refine⟨w.i,?_,⟨by omega,?_⟩,λh=>absurd h hn2⟩
 .conv=>lhs;rw[w.t,e,hl]
  rw[ep];simp
 .rw[ep,lI,rS (by decide)];omega
theorem z8(w:ReadJ text tx en n r)(h:(Go.Lib.cut tx [10]).2.2=true)(h1:¬n=1)(h2:¬en=true)(q:LineQ (Go.Lib.cut tx [10]).1 r r2):ReadJ text (Go.Lib.cut tx [10]).2.1 en (n+1) r2:=by
 have e:=E7 h;have hn:=w.c;have hn2:¬n+1=1:=by omega
 have ep:preT en (n+1) r2=preT en n r++((Go.Lib.cut tx [10]).1++[10]):=by rw[preT,preT,bh hn2,bh h1,bh h2,q.e];simp
 refine⟨q.i,?_,⟨by omega,?_⟩,λh=>absurd h hn2⟩
 .conv=>lhs;rw[w.t,e]
  rw[ep];simp
 .rw[ep,lI,rS (gm h).2];omega
theorem ReadJ.le(w:ReadJ text tx en n r):1<=n/\n<=cntL text+1:=by
 have h1:=w.c;have h2:=lI (preT en n r) tx;rw[<-w.t]at h2;have h3:=Fo tx;omega
theorem ReadJ.len(w:ReadJ text tx en n r):(tx.length:Int)<=text.length/\(¬n=1->(tx.length:Int)+14<=text.length):=by
 have h2:=congrArg List.length w.t;rw[ac]at h2;refine⟨by omega,λh=>?_⟩;rw[preT,bh h]at h2;have:(headB++10::(bodyR r++(if en=true then endB else[]))).length≥14:=by
  rw[ac,au];have:headB.length=13:=rfl;omega
 omega
theorem ReadJ.line(w:ReadJ text tx en n r)(h1:¬n=1)(ht:(text.length:Int)<=3000)(h:(Go.Lib.cut tx [10]).2.2=true):((Go.Lib.cut tx [10]).1.length:Int)<=2990/\(10:UInt8)∉(Go.Lib.cut tx [10]).1:=by
 have h2:=(w.len).2 h1;have h3:=gq tx 10;exact⟨by omega,(gm h).2⟩
theorem yF{e:Int}(w:ReadJ text tx en n r)(he:e=6\/e=4\/e=5):ReadQ text n e A B M N:=⟨λh=>by omega,λ_=>⟨by omega,w.le.1,w.le.2,λh=>by omega,λh=>by omega⟩⟩
theorem AD(w:ReadJ text tx en n r)(h1:n=1):ReadQ text n 15 A B M N:=⟨λh=>by omega,λ_=>⟨by omega,w.le.1,w.le.2,λ_=>h1,λh=>by omega⟩⟩
theorem DU(w:ReadJ text tx en n r)(h:¬(Go.Lib.cut tx [10]).2.2=true):ReadQ text n 13 A B M N:=by
 refine⟨λh=>by omega,λ_=>⟨by omega,w.le.1,w.le.2,λh=>by omega,λ_=>?_⟩⟩;have h2:=lI (preT en n r) tx;rw[<-w.t,Gn (ia h).2]at h2;have:=w.c;omega
theorem H4{X X2:List IdL}{Y Y2:List Bool}(w:ReadJ text tx en n r)(h1:en=true)(h2:tx=[])(hx:X=r.Is/\Y=r.Is.map λx=> !decide (x∈r.Ds))(hy:X2=r.Js/\Y2=r.Js.map λx=> !decide (x∈r.Es)):ReadQ text 0 0 (List.zip X Y) (List.zip X2 Y2) r.M r.N:=by
 refine⟨λ_=>⟨rfl,r,w.i,?_,?_,?_,rfl,rfl⟩,λh=>absurd rfl h⟩
 .have hn:¬n=1:=λh=>by
   have:=(w.z h).1;rw[h1]at this;cases this
  have:=w.t;rw[h2,List.append_nil,preT,bh hn,bi h1]at this;exact this
 .rw[hx.1,hx.2];unfold axOf;congr 1
 .rw[hy.1,hy.2];unfold axOf;congr 1
end
def shA(SB:Nat)(Γ:Glob)(A B:AX)(M:List (CK×CT))(N:List (bn×NT)):Asrt:=exA λx:Nat×Nat×Nat×Nat=>Df [own SB (.cells [.ptr x.1 0,.ptr x.2.1 0,.ptr x.2.2.1 0,.ptr x.2.2.2 0] 54),axA x.1 A,axA x.2.1 B,stA x.2.2.1 Γ M,tbA x.2.2.2 Γ N]
def shO(sh:SV)(e:Int)(Γ:Glob)(A B:AX)(M:List (CK×CT))(N:List (bn×NT)):Asrt:=exA λSB:Nat=>yA (decide (e=0)) (jx (puA (sh=.ptr SB 0)) (shA SB Γ A B M N)) (puA (sh=.lit (.pointer none)))
section
variable {Γ:Glob}{Z h:Hp}{m:List Asrt}{A B:AX}{M:List (CK×CT)}{N:List (bn×NT)}{SB XA YA CE NA:Nat}{e:Int}
theorem GW(s:St Z (own SB (.cells [.ptr XA 0,.ptr YA 0,.ptr CE 0,.ptr NA 0] 54)::axA XA A::axA YA B::stA CE Γ M::tbA NA Γ N::m) h):St Z (shA SB Γ A B M N::m) h:=eL.2 ⟨(XA,YA,CE,NA),ir.2 s⟩
theorem tq(he:¬e=0)(s:St Z m h):St Z (shO (oneS (.lit (.pointer none))) e Γ A B M N::m) h:=by
 refine eL.2 ⟨0,?_⟩;unfold yA;rw[bc he];exact i1.2 ⟨cm rfl (by simp[SV.same,dr]),s⟩
theorem MK(he:e=0)(s:St Z (shA SB Γ A B M N::m) h):St Z (shO (.ptr SB 0) e Γ A B M N::m) h:=by
 refine eL.2 ⟨SB,?_⟩;unfold yA;rw[bd he];exact cO.2 (i1.2 ⟨rfl,s⟩)
theorem Ix{sh:SV}(he:e=0)(s:St Z (shO sh e Γ A B M N::m) h):∃SB XA YA CE NA:Nat,sh=.ptr SB 0/\St Z (own SB (.cells [.ptr XA 0,.ptr YA 0,.ptr CE 0,.ptr NA 0] 54)::axA XA A::axA YA B::stA CE Γ M::tbA NA Γ N::m) h:=by
 obtain⟨SB,s⟩:=eL.1 s;unfold yA at s;rw[bd he]at s;obtain⟨h1,s⟩:=i1.1 (cO.1 s);obtain⟨x,s⟩:=eL.1 s;exact⟨SB,x.1,x.2.1,x.2.2.1,x.2.2.2,h1,ir.1 s⟩
end
abbrev OJ(Γ:Glob):TG:=λl Zq vq hq=>∃P:Nat,(True)/\vq=.ptr P 0/\St Zq (stA P Γ ([]:List (CK×CT))::l) hq
theorem PY(hs:St Z0 (l) h):RC Γ Z0 9 [] h (OJ Γ l):=by
 refine bL Tryz.f9 Tryz.func9 [] [] {} (va {}) (.new<|.swap [.blk 0 [.lit (.map none)] 103] [.asr 0] ⟨0,0,0,0,1,1⟩<|.ret (.ptr 0 0) [.asr 0]) hs ?_;refine bA λbk0=>?_;refine dsU {a:=[stA bk0 Γ ([]:List (CK×CT))]} (λl h hs=>ur TJ (hs) (m:=l) (h:=h)) ?_;exact an λh hs=>⟨bk0,TH,TY,hs⟩
abbrev Qz(Γ:Glob):TG:=λl Zq vq hq=>∃P:Nat,(True)/\vq=.ptr P 0/\St Zq (tbA P Γ ([]:List (bn×NT))::l) hq
theorem QU(hs:St Z0 (l) h):RC Γ Z0 10 [] h (Qz Γ l):=by
 refine bL Tryz.f10 Tryz.func10 [] [] {} (va {}) (.new<|.swap [.blk 0 [.lit (.map none)] 106] [.asr 0] ⟨0,0,0,0,1,1⟩<|.ret (.ptr 0 0) [.asr 0]) hs ?_;refine bA λbk0=>?_;refine dsU {a:=[tbA bk0 Γ ([]:List (bn×NT))]} (λl h hs=>s8 TJ (hs) (m:=l) (h:=h)) ?_;exact an λh hs=>⟨bk0,TH,TY,hs⟩
abbrev KW(Γ:Glob)(text:bn):TG:=λl Zq vq hq=>∃sh:SV,∃n:Int,∃e:Int,∃A:AX,∃B:AX,∃M:List (CK×CT),∃N:List (bn×NT),(ReadQ text n e A B M N)/\vq=.tuple [(oneS sh),iV n,iV e]/\St Zq (shO (oneS sh) e Γ A B M N::l) hq
noncomputable abbrev Oc(Γ:Glob)(text:bn)(Z0:Hp)(l:List Asrt):Cx:=fnC Tryz.prog Γ Tryz.f5 1 [] (d4 Z0::l) (dz Z0 (KW Γ text l))
theorem JQ(text:bn)(ht:(text.length:Int)<=3000)(P0 P1:Nat)(bk2 bk3 bk4:Nat):∀(m:Nat) (Z:Hp) (tx:bn) (en:Bool) (n:Int) (ri rd:SV) (ci cd:SV) (kd c0:Int) (c1 c2 c3:Int) (nm:bn) (Is Ds:List IdL) (Js Es:List IdL) (Ms:List (IdL×Bool)) (Ns:List (IdL×Bool)) (M:List (CK×CT)) (N:List (bn×NT)) (hi:ReadJ text tx en n ⟨Is,Ds,Js,Es,Ms,Ns,M,N,kd,c0,c1,c2,c3,nm⟩) (hm:(tx.length:Int).toNat<m),den (Oc Γ text Z0 l) (.stop [0,1,0,1,1,1,1,0,1] OT ER) ⟨6,3,1,4,5,16⟩ (va {i:=[n,kd,c0,c1,c2,c3],t:=[text,tx,nm],b:=[en],r:=[ri,rd,ci,cd],n:=[P0,P1,bk2,bk3,bk4],a:=[stA P0 Γ ([]:List (CK×CT)),tbA P1 Γ ([]:List (bn×NT)),lsA 43 2 idE (oneS (.lit mt)) [],lsA 43 2 idE (oneS (.lit mt)) [],mpA idK bbE bk3 [],lsA 43 2 idE (oneS (.lit mt)) [],lsA 43 2 idE (oneS (.lit mt)) [],mpA idK bbE bk4 [],lsA 43 2 idE (oneS ri) Is,lsA 43 2 idE (oneS rd) Ds,mpA idK bbE bk3 Ms,lsA 43 2 idE (oneS ci) Js,lsA 43 2 idE (oneS cd) Es,mpA idK bbE bk4 Ns,stA P0 Γ M,tbA P1 Γ N]}) Z:=by
 intro m
 induction m with
 |zero=>intros;omega
 |succ m ih=>
  intro Z tx en n ri rd ci cd kd c0 c1 c2 c3 nm Is Ds Js Es Ms Ns M N hi hm;refine cZ [0,1,0,1,1,1,1,0,1] OT ER [] ⟨6,3,1,4,5,16⟩ (.call 11 [vT 1,.txt (.tl [10])] [] (.tup [vT 3,vT 4,vB 1]) [] ⟨6,5,2,4,5,16⟩<|.fork (.bv 0) (.fork (.teq (.tv 1) (.tl [])) (.call 13 [.ptr 2 0] [.blk 2 QT 47,.asr 8,.asr 9,.asr 10] (.ptr 5 0) [.blk 2 QC 47,.asr 16,.asr 17,.asr 18,.blk 5 QI 118,.asr 19,.asr 20] ⟨11,6,2,10,6,21⟩<|.call 13 [.ptr 2 3] [.blk 2 QC 47,.asr 11,.asr 12,.asr 13] (.ptr 6 0) [.blk 2 [.raw 10,.raw 11,.map 3,.raw 12,.raw 13,.map 4,.ptr 0 0,.ptr 1 0,vI 11,vI 12,vI 13,vI 14,vI 15,vT 6] 47,.asr 21,.asr 22,.asr 23,.blk 6 QF 118,.asr 24,.asr 25] ⟨16,7,2,16,7,26⟩<|.new<|.swap [.blk 5 QI 118,.asr 19,.asr 20] [.asr 26] ⟨16,7,2,16,8,27⟩<|.swap [.blk 6 QF 118,.asr 24,.asr 25] [.asr 27] ⟨16,7,2,16,8,28⟩<|.swap [.blk 7 [.ptr 5 0,.ptr 6 0,.ptr 0 0,.ptr 1 0] 54,.asr 26,.asr 27,.asr 14,.asr 15] [.asr 28] ⟨16,7,2,16,8,29⟩<|.swap [.asr 28] [.asr 29] ⟨16,7,2,16,8,30⟩<|.ret (.tup [.ptr 7 0,Fd,Fd]) [.asr 29])<|.fork (.bv 1) (.fork (.eq (.v 0) (.z 1)) (.fork (.teq (.tv 3) (.tl [99,111,117,110,116,101,114,112,97,110,101,32,49])) (.vc (xI (.add (.v 0) (.z 1)))<|.stop [0,1,0,1,1,1,1,0,1] Mx ER)<|.swap [] [.asr 16] ⟨6,5,2,4,5,17⟩<|.ret (.tup [.lit (.pointer none),vI 0,I (.z 15)]) [.asr 16])<|.swap [] [.asr 16] ⟨6,5,2,4,5,17⟩<|.ret (.tup [.lit (.pointer none),vI 0,Tz]) [.asr 16])<|.swap [] [.asr 16] ⟨6,5,2,4,5,17⟩<|.ret (.tup [.lit (.pointer none),vI 0,I (.z 13)]) [.asr 16])<|.fork (.bv 1) (.fork (.eq (.v 0) (.z 1)) (.fork (.teq (.tv 3) (.tl [99,111,117,110,116,101,114,112,97,110,101,32,49])) (.vc (xI (.add (.v 0) (.z 1)))<|.stop [0,1,0,1,1,1,1,0,1] Mx ER)<|.swap [] [.asr 16] ⟨6,5,2,4,5,17⟩<|.ret (.tup [.lit (.pointer none),vI 0,I (.z 15)]) [.asr 16])<|.fork (.teq (.tv 3) (.tl [101,110,100])) (.vc (xI (.add (.v 0) (.z 1)))<|.stop [0,1,0,1,1,1,1,0,1] [(0,vT 4),(5,.ptr 2 0),(6,TB),(7,I (.add (.v 0) (.z 1)))] ER)<|.call 12 [.ptr 2 0,vT 3] [.blk 2 QT 47,.asr 8,.asr 9,.asr 10,.asr 11,.asr 12,.asr 13,.asr 14,.asr 15] (vI 6) [.blk 2 Qd 47,.asr 16,.asr 17,.asr 18,.asr 19,.asr 20,.asr 21,.asr 22,.asr 23] ⟨12,6,2,8,5,24⟩<|.fork (.eq (.v 6) (.z 0)) (.vc (xI (.add (.v 0) (.z 1)))<|.stop [0,1,0,1,1,1,1,0,1] Mx [.asr 21,.asr 16,.asr 17,.asr 18,.asr 19,.asr 20,.blk 2 Qd 47,.asr 23,.asr 22])<|.swap [] [.asr 24] ⟨12,6,2,8,5,25⟩<|.ret (.tup [.lit (.pointer none),vI 0,vI 6]) [.asr 24])<|.swap [] [.asr 16] ⟨6,5,2,4,5,17⟩<|.ret (.tup [.lit (.pointer none),vI 0,I (.z 13)]) [.asr 16]) 100000 bm (λ_ h=>by cases h) ?_;refine dcU {t:=[((Go.Lib.cut tx ([10]:bn)).1),((Go.Lib.cut tx ([10]:bn)).2.1)],b:=[((Go.Lib.cut tx ([10]:bn)).2.2)]} (λ_ _=>w5r Γ tx ([10]:bn) eQ) λZ=>?_;refine bo (en=true) rfl (λcd1=>?_) λcd1=>?_
  .refine bo (tx=([]:bn)) rfl (λcd2=>?_) λcd2=>?_
   .have zd2:=qN cd2;refine dc5 (λ(P101:Nat) (x101:SV) (y101:SV) (X101:(List IdL)) (Y101:(List Bool))=>{i:=[kd,c0,c1,c2,c3],t:=[nm],r:=[ri,rd,ci,cd,x101,y101],n:=[P101],a:=[lsA 43 2 idE (oneS ri) Is,lsA 43 2 idE (oneS rd) Ds,mpA idK bbE bk3 Ms,lsA 43 2 idE (oneS x101) X101,lsA 4 1 boE (oneS y101) Y101]}) _ (λ_ _=>Tk Γ bk2 ri rd bk3 ci cd bk4 P0 P1 kd c0 c1 c2 c3 nm Is Ds Ms eQ eQ eQ) λZ P101 x101 y101 X101 Y101 qd101=>?_;refine dc5 (λ(P102:Nat) (x102:SV) (y102:SV) (X102:(List IdL)) (Y102:(List Bool))=>{i:=[kd,c0,c1,c2,c3],t:=[nm],r:=[ri,rd,ci,cd,x102,y102],n:=[P102],a:=[lsA 43 2 idE (oneS ci) Js,lsA 43 2 idE (oneS cd) Es,mpA idK bbE bk4 Ns,lsA 43 2 idE (oneS x102) X102,lsA 4 1 boE (oneS y102) Y102]}) _ (λ_ _=>R1 Γ bk2 ri rd bk3 ci cd bk4 P0 P1 kd c0 c1 c2 c3 nm Js Es Ns eQ eQ eQ) λZ P102 x102 y102 X102 Y102 qd102=>?_;refine bA λbk7=>?_;refine dsU {a:=[axA P101 (List.zip X101 Y101)]} (λl h hs=>xM eQ (hs) (l:=l) (h:=h)) ?_;refine dsU {a:=[axA P102 (List.zip X102 Y102)]} (λl h hs=>xM eQ (hs) (l:=l) (h:=h)) ?_;refine dsU {a:=[shA bk7 Γ (List.zip X101 Y101) (List.zip X102 Y102) M N]} (λl h hs=>GW (hs) (m:=l) (h:=h)) ?_;refine dsU {a:=[shO (.ptr bk7 0) 0 Γ (List.zip X101 Y101) (List.zip X102 Y102) M N]} (λl h hs=>MK eQ (hs) (m:=l) (h:=h)) ?_;exact an λh hs=>⟨(.ptr bk7 0),0,0,(List.zip X101 Y101),(List.zip X102 Y102),M,N,eQ,AK,A9⟩
   .have zd2:=qE cd2;refine bo (((Go.Lib.cut tx ([10]:bn)).2.2)=true) rfl (λcd3=>?_) λcd3=>?_
    .refine bo (n=1) rfl (λcd4=>?_) λcd4=>?_
     .refine bo (((Go.Lib.cut tx ([10]:bn)).1)=([99,111,117,110,116,101,114,112,97,110,101,32,49]:bn)) rfl (λcd5=>?_) λcd5=>?_
      .refine bE (show I6 (n+1)from eQ) ?_;exact bu (ih _ ((Go.Lib.cut tx ([10]:bn)).2.1) en (n+1) ri rd ci cd kd c0 c1 c2 c3 nm Is Ds Js Es Ms Ns M N eQ eQ) rfl rfl
      .refine dsU {a:=[shO (oneS (.lit (.pointer none))) 15 Γ [] [] [] []]} (λl h hs=>tq eQ (hs) (m:=l) (h:=h)) ?_;exact an λh hs=>⟨(.lit (.pointer none)),n,15,([]),([]),([]),([]),eQ,AK,A9⟩
     .refine dsU {a:=[shO (oneS (.lit (.pointer none))) 6 Γ [] [] [] []]} (λl h hs=>tq eQ (hs) (m:=l) (h:=h)) ?_;exact an λh hs=>⟨(.lit (.pointer none)),n,6,([]),([]),([]),([]),eQ,AK,A9⟩
    .refine dsU {a:=[shO (oneS (.lit (.pointer none))) 13 Γ [] [] [] []]} (λl h hs=>tq eQ (hs) (m:=l) (h:=h)) ?_;exact an λh hs=>⟨(.lit (.pointer none)),n,13,([]),([]),([]),([]),eQ,AK,A9⟩
  .refine bo (((Go.Lib.cut tx ([10]:bn)).2.2)=true) rfl (λcd2=>?_) λcd2=>?_
   .refine bo (n=1) rfl (λcd3=>?_) λcd3=>?_
    .refine bo (((Go.Lib.cut tx ([10]:bn)).1)=([99,111,117,110,116,101,114,112,97,110,101,32,49]:bn)) rfl (λcd4=>?_) λcd4=>?_
     .refine bE (show I6 (n+1)from eQ) ?_;exact bu (ih _ ((Go.Lib.cut tx ([10]:bn)).2.1) en (n+1) ri rd ci cd kd c0 c1 c2 c3 nm Is Ds Js Es Ms Ns M N eQ eQ) rfl rfl
     .refine dsU {a:=[shO (oneS (.lit (.pointer none))) 15 Γ [] [] [] []]} (λl h hs=>tq eQ (hs) (m:=l) (h:=h)) ?_;exact an λh hs=>⟨(.lit (.pointer none)),n,15,([]),([]),([]),([]),eQ,AK,A9⟩
    .refine bo (((Go.Lib.cut tx ([10]:bn)).1)=([101,110,100]:bn)) rfl (λcd4=>?_) λcd4=>?_
     .refine bE (show I6 (n+1)from eQ) ?_;exact bu (ih _ ((Go.Lib.cut tx ([10]:bn)).2.1) true (n+1) ri rd ci cd kd c0 c1 c2 c3 nm Is Ds Js Es Ms Ns M N eQ eQ) rfl rfl
     .refine bS (α:=Int×SV×SV×SV×SV×Int×Int×Int×Int×Int×bn×(List IdL)×(List IdL)×(List IdL)×(List IdL)×(List (IdL×Bool))×(List (IdL×Bool))×(List (CK×CT))×(List (bn×NT))) (λ(⟨er111,ri2111,rd2111,ci2111,cd2111,kd2111,d0111,d1111,d2111,d3111,nm2111,Is2111,Ds2111,Js2111,Es2111,Ms2111,Ns2111,M2111,N2111⟩:Int×SV×SV×SV×SV×Int×Int×Int×Int×Int×bn×(List IdL)×(List IdL)×(List IdL)×(List IdL)×(List (IdL×Bool))×(List (IdL×Bool))×(List (CK×CT))×(List (bn×NT)))=>{i:=[er111,kd2111,d0111,d1111,d2111,d3111],t:=[nm2111],r:=[ri2111,rd2111,ci2111,cd2111],a:=[lsA 43 2 idE (oneS ri2111) Is2111,lsA 43 2 idE (oneS rd2111) Ds2111,mpA idK bbE bk3 Ms2111,lsA 43 2 idE (oneS ci2111) Js2111,lsA 43 2 idE (oneS cd2111) Es2111,mpA idK bbE bk4 Ns2111,stA P0 Γ M2111,tbA P1 Γ N2111]}) (λ(⟨er111,ri2111,rd2111,ci2111,cd2111,kd2111,d0111,d1111,d2111,d3111,nm2111,Is2111,Ds2111,Js2111,Es2111,Ms2111,Ns2111,M2111,N2111⟩:Int×SV×SV×SV×SV×Int×Int×Int×Int×Int×bn×(List IdL)×(List IdL)×(List IdL)×(List IdL)×(List (IdL×Bool))×(List (IdL×Bool))×(List (CK×CT))×(List (bn×NT)))=>(er111=0\/er111=4\/er111=5\/er111=6)/\(er111=0->LineQ ((Go.Lib.cut tx ([10]:bn)).1) ⟨Is,Ds,Js,Es,Ms,Ns,M,N,kd,c0,c1,c2,c3,nm⟩ ⟨Is2111,Ds2111,Js2111,Es2111,Ms2111,Ns2111,M2111,N2111,kd2111,d0111,d1111,d2111,d3111,nm2111⟩)) (λl h hs=>(Ob (h:=h) (l:=l) Γ bk2 ((Go.Lib.cut tx ([10]:bn)).1) ri rd bk3 ci cd bk4 P0 P1 kd c0 c1 c2 c3 nm Is Ds Js Es Ms Ns M N eQ eQ hs).mono λ_ ⟨Z1,z1,er111,ri2111,rd2111,ci2111,cd2111,kd2111,d0111,d1111,d2111,d3111,nm2111,Is2111,Ds2111,Js2111,Es2111,Ms2111,Ns2111,M2111,N2111,hq_,he_,hs_⟩=>⟨Z1,z1,⟨er111,ri2111,rd2111,ci2111,cd2111,kd2111,d0111,d1111,d2111,d3111,nm2111,Is2111,Ds2111,Js2111,Es2111,Ms2111,Ns2111,M2111,N2111⟩,hq_,he_,hs_⟩) λZ ⟨er111,ri2111,rd2111,ci2111,cd2111,kd2111,d0111,d1111,d2111,d3111,nm2111,Is2111,Ds2111,Js2111,Es2111,Ms2111,Ns2111,M2111,N2111⟩ qd111=>?_;refine bo (er111=0) rfl (λcd5=>?_) λcd5=>?_
      .refine bE (show I6 (n+1)from eQ) ?_;exact bu (ih _ ((Go.Lib.cut tx ([10]:bn)).2.1) en (n+1) ri2111 rd2111 ci2111 cd2111 kd2111 d0111 d1111 d2111 d3111 nm2111 Is2111 Ds2111 Js2111 Es2111 Ms2111 Ns2111 M2111 N2111 eQ eQ) rfl rfl
      .refine dsU {a:=[shO (oneS (.lit (.pointer none))) er111 Γ [] [] [] []]} (λl h hs=>tq eQ (hs) (m:=l) (h:=h)) ?_;exact an λh hs=>⟨(.lit (.pointer none)),n,er111,([]),([]),([]),([]),eQ,AK,A9⟩
   .refine dsU {a:=[shO (oneS (.lit (.pointer none))) 13 Γ [] [] [] []]} (λl h hs=>tq eQ (hs) (m:=l) (h:=h)) ?_;exact an λh hs=>⟨(.lit (.pointer none)),n,13,([]),([]),([]),([]),eQ,AK,A9⟩
theorem Pu(text:bn)(ht:(text.length:Int)<=3000)(hs:St Z0 (l) h):RC Γ Z0 5 [sV text] h (KW Γ text l):=by
 refine bL Tryz.f5 Tryz.func5 [vT 0] [] ⟨0,1,0,0,0,0⟩ (va {t:=[text]}) (.call 9 [] [] (.ptr 0 0) [.asr 0] ⟨0,1,0,0,1,1⟩<|.call 10 [] [] (.ptr 1 0) [.asr 1] ⟨0,1,0,0,2,2⟩<|.new<|.new<|.new<|.swap [] [.asr 2] ⟨0,1,0,0,5,3⟩<|.swap [] [.asr 3] ⟨0,1,0,0,5,4⟩<|.swap [.obj 3 (.map [] 0)] [.asr 4] ⟨0,1,0,0,5,5⟩<|.swap [] [.asr 5] ⟨0,1,0,0,5,6⟩<|.swap [] [.asr 6] ⟨0,1,0,0,5,7⟩<|.swap [.obj 4 (.map [] 0)] [.asr 7] ⟨0,1,0,0,5,8⟩<|.stop [0,1,0,1,1,1,1,0,1] [(0,vT 0),(5,.ptr 2 0),(6,TA),(7,I (.z 1))] [.asr 7,.asr 6,.asr 5,.asr 4,.asr 3,.asr 2,.blk 2 [.lit mt,.lit mt,.map 3,.lit mt,.lit mt,.map 4,.ptr 0 0,.ptr 1 0,Fd,Fd,Fd,Fd,Fd,.txt (.tl [])] 47,.asr 1,.asr 0]) hs ?_;refine bS (λ(P0:Nat)=>{n:=[P0],a:=[stA P0 Γ ([]:List (CK×CT))]}) _ (λ_ _=>PY Γ) λZ P0 qd0=>?_;refine bS (λ(P1:Nat)=>{n:=[P1],a:=[tbA P1 Γ ([]:List (bn×NT))]}) _ (λ_ _=>QU Γ) λZ P1 qd1=>?_;refine bA λbk2=>?_;refine bA λbk3=>?_;refine bA λbk4=>?_;refine dsU {a:=[lsA 43 2 idE (oneS (.lit mt)) []]} (λl h hs=>kS (hs) (m:=l) (h:=h)) ?_;refine dsU {a:=[lsA 43 2 idE (oneS (.lit mt)) []]} (λl h hs=>kS (hs) (m:=l) (h:=h)) ?_;refine dsU {a:=[mpA idK bbE bk3 []]} (λl h hs=>oa (hs) (m:=l) (h:=h)) ?_;refine dsU {a:=[lsA 43 2 idE (oneS (.lit mt)) []]} (λl h hs=>kS (hs) (m:=l) (h:=h)) ?_;refine dsU {a:=[lsA 43 2 idE (oneS (.lit mt)) []]} (λl h hs=>kS (hs) (m:=l) (h:=h)) ?_;refine dsU {a:=[mpA idK bbE bk4 []]} (λl h hs=>oa (hs) (m:=l) (h:=h)) ?_;exact bu (JQ Γ text ht P0 P1 bk2 bk3 bk4 _ _ text false 1 (.lit mt) (.lit mt) (.lit mt) (.lit mt) 0 0 0 0 0 ([]:bn) ([]) ([]) ([]) ([]) ([]) ([]) ([]:List (CK×CT)) ([]:List (bn×NT)) eQ (aq _)) (by first|rfl|(simp only[ax,aY,XV.sv,va,Va.ext,fN,List.getD,ei];rfl)) (by first|rfl|(simp only[ei];rfl))
abbrev IG:List (Nat×XV):=[(66,.fn 45 [] [.ptr 8 0]),(0,.ptr 0 0),(4,.ptr 5 0),(5,.ptr 6 0)]
abbrev O7:List MI:=[.blk 3 [vT 0] 9,.blk 1 [.fn 14 [] [.ptr 2 0]] 66,.asr 4]
abbrev I4:List (Nat×XV):=[(89,.fn 53 [] [.ptr 10 0]),(4,.ptr 5 0),(5,.ptr 6 0)]
abbrev Ig:List (Nat×XV):=[(8,.fn 41 [] [.ptr 4 0]),(2,.ptr 1 0),(3,.ptr 3 0)]
abbrev oc:List XV:=[.ptr 1 0,.ptr 2 0,.ptr 3 0,.ptr 4 0]
theorem gB{P:Prop}(h:P:=by first|(have w1:=Sm hb;simp only[tQ,ac,au,aw];omega)|with_reducible exact hA|with_reducible exact hB|with_reducible exact hM|with_reducible exact hN|exact OP Rw hb|exact Pr hi hb|with_reducible exact zc hi hM hk (by assumption)|with_reducible exact xp hi hN hk (G1 (nk hN hk) (by assumption))|exact λh=>((ck hM hk).x h).2|with_reducible exact(ck hM hk).o|with_reducible exact(ck hM hk).v|with_reducible exact(nk hN hk).o.a|(have w1:=(ck hM hk).n;omega)|(have w1:=(nk hN hk).n;omega)|(have w1:=(ci hM hk).h;omega)|(have w1:=Jg (ck hM hk) (by assumption);omega)|(have w1:=F8 (nk hN hk) (by assumption);omega)|(exact⟨by simp,by have w3:=(zc hi hM hk (by assumption)).len;simp only[ac]at w3;omega⟩)|(exact⟨by simp,by have w3:=(xp hi hN hk (G1 (nk hN hk) (by assumption))).len;simp only[ac]at w3;omega⟩)|(exact⟨by simp,by have w3:=hi.len;simp only[tQ,au,aw];omega⟩)|exact⟨by simp,by simp[tQ]⟩|(have w3:=hi.len;simp only[tQ,ac,au,aw];omega)|exact E6 hi|(simp;done)|omega|(and_intros<;>intros<;>and_intros<;>first|omega|assumption|exact V1)):P:=h
theorem sF{P:Prop}(h:P:=by first|omega|(have w1:=hA.l;omega)|exact P6 hb|with_reducible exact⟨hA.n,hA.l⟩|with_reducible exact lT _|with_reducible exact lC _|exact xh hi hk (by assumption)|exact yI hi hk (by assumption)|exact JD (hA.at hk)|(exact⟨by simp,by have w3:=(xh hi hk (by assumption)).len;simp only[ac]at w3;omega⟩)|(exact⟨by simp,by have w3:=(yI hi hk (by assumption)).len;simp only[ac]at w3;omega⟩)|(have w3:=hi.len;omega)|first|omega|(and_intros<;>intros<;>and_intros<;>first|omega|assumption|exact V1)):P:=h
theorem J3{P:Prop}(h:P:=by first|omega|(simp only[ac];omega)|first|omega|(and_intros<;>intros<;>and_intros<;>first|omega|assumption|exact V1)):P:=h
theorem tQ(a sep:bn):Go.Lib.join [a] sep=a:=by simp[Go.Lib.join,List.intercalate]
theorem Og(a b sep:bn):Go.Lib.join [a,b] sep=a++(sep++b):=by simp[Go.Lib.join,List.intercalate]
theorem Kz(a b c sep:bn):Go.Lib.join [a,b,c] sep=a++(sep++(b++(sep++c))):=by simp[Go.Lib.join,List.intercalate]
theorem P5(a b c d sep:bn):Go.Lib.join [a,b,c,d] sep=a++(sep++(b++(sep++(c++(sep++d))))):=by simp[Go.Lib.join,List.intercalate]
def Hs(w:bn)(y:IdL×Bool):bn:=(w++32::(idB y.1.1 y.1.2++(if y.2 then[]else[32,100,101,97,100])))++[10]
def axL(w:bn)(A:AX):bn:=A.flatMap (Hs w)
structure AxOk(A:AX):Prop where
 n:(idsOf A).Nodup
 l:(A.length:Int)<=1000
 i:∀y∈A,i64P y.1
section
variable {A:AX}{k:Nat}{w:bn}
theorem vr(h:k<A.length):lget (idsOf A) (k:Int)=(lget A (k:Int)).1/\lget (gh A) (k:Int)=(lget A (k:Int)).2:=by
 have h1:=dG (L:=A) (i:=(k:Int)) bj bj;have h2:=dG (L:=idsOf A) (i:=(k:Int)) bj (by rw[ao];omega);have h3:=dG (L:=gh A) (i:=(k:Int)) bj (by rw[ao];omega);rw[aV,h1,af,a7]at h2 h3;exact⟨h2.symm,h3.symm⟩
theorem xP(h:k<A.length):axL w (A.take (k+1))=axL w (A.take k)++Hs w (lget A (k:Int)):=by
 have e:=eh (L:=A) (i:=(k:Int)) bj bj;rw[show((k:Int)+1).toNat=k+1 by omega,Int.toNat_natCast]at e;rw[e,axL,List.flatMap_append,List.flatMap_cons,List.flatMap_nil,List.append_nil];rfl
theorem No(k:Nat):((axL w (A.take k)).length:Int)<=((axL w A).length:Int):=by
 have:axL w A=axL w (A.take k++A.drop k):=by rw[List.take_append_drop]
 rw[this];unfold axL;rw[List.flatMap_append,ac];omega
theorem AxOk.at(ok:AxOk A)(h:k<A.length):i64P ((lget (idsOf A) (k:Int)).1,(lget (idsOf A) (k:Int)).2):=by
 rw[(vr h).1];exact ok.i _ (fz bj bj)
structure AxW(w T:bn)(A:AX)(k:Nat)(L:bn):Prop where
 e:L=T++axL w (A.take k)
 b:(T.length:Int)+((axL w A).length:Int)<=900000
theorem P6{T:bn}(h:(T.length:Int)+((axL w A).length:Int)<=900000):AxW w T A 0 T:=⟨by simp[axL],h⟩
theorem xh{T L:bn}(v:AxW w T A k L)(h:k<A.length)(hl:lget (gh A) (k:Int)=true):AxW w T A (k+1) (L++Go.Lib.join [w,idB (lget (idsOf A) (k:Int)).1 (lget (idsOf A) (k:Int)).2] [32]++[10]):=by
 obtain⟨h1,h2⟩:=vr h;refine⟨?_,v.b⟩;rw[v.e,xP h,h1,Og,Hs,<-h2,bi hl];simp
theorem yI{T L:bn}(v:AxW w T A k L)(h:k<A.length)(hl:¬lget (gh A) (k:Int)=true):AxW w T A (k+1) (L++Go.Lib.join [w,idB (lget (idsOf A) (k:Int)).1 (lget (idsOf A) (k:Int)).2,[100,101,97,100]] [32]++[10]):=by
 obtain⟨h1,h2⟩:=vr h;refine⟨?_,v.b⟩;rw[v.e,xP h,h1,Kz,Hs,<-h2,bh hl];simp
theorem AxW.len{T L:bn}(v:AxW w T A k L):(L.length:Int)<=900000:=by
 have h1:=v.b;have h2:=No (A:=A) (w:=w) k;rw[v.e,ac];omega
end
theorem JD{a b:Int}(h:i64P (a,b)): TF a (TE b):=h
theorem rQ:∀L:List bn,txs (L.map sV)=some L
 |[]=>rfl
 |s::L=>by
  show(txs (L.map sV)).map (λl=>s::l)=_;rw[rQ L];rfl
theorem EM(L:List bn):(L.map txE).flatten=L.map sV:=by
 induction L with
 |nil=>rfl
 |cons s L ih=>rw[ax,aZ,ih];rfl
theorem NN{Z h:Hp}{m:List Asrt}{v:SV}{L:List bn}(s:St Z (lsA 9 1 txE v L::m) h):lsC v h 9=some (L.map sV):=by
 obtain⟨_,⟨rfl,h2,_⟩|⟨b,o,h1,_,⟨cs,h3,h4⟩,_⟩⟩:=dR s
 .rw[List.map_eq_nil_iff.1 h2];rfl
 .rw[ao,Nat.mul_one,EM]at h4;rcases h3 with⟨c,rfl,h5,h6,h7,h8⟩|⟨k,rfl,h5,h6,h7⟩
  .obtain rfl:=ab h7;rw[ao]at h5;simp only[lsC,h1,ao,jL (show cs.length=c by omega),ai h5,ai h6,Nat.beq_refl,aF,bf,h4]
  .obtain rfl:=ab h6;rw[ao]at h5 h7;simp only[lsC,h1,ao,ai h5,ai (show L.length<=cs.length by omega),Nat.beq_refl,aF,bf,h4]
theorem Gt{Z h:Hp}{m:List Asrt}{v:SV}{L:List bn}{p:bn}(s:St Z (lsA 9 1 txE v L::m) h)(h1:(L.length:Int)<=10)(h2:((Go.Lib.join L p).length:Int)<=900000):tu [v,sV p] h=ig h (sV (Go.Lib.join L p)):=by
 simp only[tu,NN s,ay,rQ,ai (show L.length<=100 by omega),ai (show(Go.Lib.join L p).length<=1000000 by omega),aF,bf];rfl
theorem OI(v:SV)(p:bn)(L:List bn)(hl:(L.length:Int)<=10/\((Go.Lib.join L p).length:Int)<=900000)(hs:St Z0 (lsA 9 1 txE (oneS v) L::l) h):RC Γ Z0 16 [(oneS v),sV p] h λZq vq hq=>(True)/\vq=sV (Go.Lib.join L p)/\St Zq (lsA 9 1 txE (oneS v) L::l) hq:=by
 exact w1r (show tu _ h=_ from Gt hs hl.1 hl.2) ⟨Z0,Sub.refl _,trivial,rfl,hs⟩
abbrev qD(Γ:Glob)(v:SV)(BD:Nat)(L:List bn)(T:bn):TG:=λl Zq vq hq=>(True)/\vq=.tuple []/\St Zq (cp BD (T++Go.Lib.join L [32]++[10])::l) hq
theorem tW(v:SV)(BD:Nat)(L:List bn)(T:bn)(hl:(L.length:Int)<=10/\(T.length:Int)+((Go.Lib.join L [32]).length:Int)<=900000)(hs:St Z0 (lsA 9 1 txE (oneS v) L::cp BD T::l) h):RC Γ Z0 14 [(oneS v),.ptr BD 0] h (qD Γ v BD L T l):=by
 refine bL Tryz.f14 Tryz.func14 [.raw 0,.ptr 0 0] [.asr 0,.asr 1] ⟨0,0,0,1,1,2⟩ (va {r:=[v],n:=[BD],a:=[lsA 9 1 txE (oneS v) L,cp BD T]}) (.call 16 [.raw 0,.txt (.tl [32])] [.asr 0] (vT 0) [.asr 2] ⟨0,1,0,1,1,3⟩<|.call 15 [.ptr 0 0,vT 0] [.asr 1] (.tup [vI 0,.lit .nilIface]) [.asr 3] ⟨1,1,0,1,1,4⟩<|.call 17 [.ptr 0 0,.int .u8 (.z 10)] [.asr 3] (.lit .nilIface) [.asr 4] ⟨1,1,0,1,1,5⟩<|.ret (.tup []) [.asr 4]) hs ?_;refine dcU {t:=[(Go.Lib.join L ([32]:bn))],a:=[lsA 9 1 txE (oneS v) L]} (λ_ _=>OI Γ v ([32]:bn) L J3) λZ=>?_;refine bS (λ(n1:Int)=>{i:=[n1],a:=[cp BD (T++(Go.Lib.join L ([32]:bn)))]}) _ (λ_ _=>Ld Γ BD (Go.Lib.join L ([32]:bn)) T J3) λZ n1 qd1=>?_;refine dcU {a:=[cp BD ((T++(Go.Lib.join L ([32]:bn)))++[UInt8.ofNat (Int.toNat 10)])]} (λ_ _=>Jv Γ BD 10 (T++(Go.Lib.join L ([32]:bn))) J3 J3) λZ=>?_;exact an λh hs=>⟨TH,TS,hs⟩
abbrev GO(Γ:Glob)(w:bn)(XA LN BD:Nat)(A:AX)(T:bn):TG:=λl Zq vq hq=>(True)/\vq=.tuple []/\St Zq (own LN (.cells [.func (.func 14) [] [.ptr BD 0]] 66)::axA XA A::cp BD (T++axL w A)::l) hq
noncomputable abbrev HG(Γ:Glob)(w:bn)(XA LN BD:Nat)(A:AX)(T:bn)(Z0:Hp)(l:List Asrt):Cx:=fnC Tryz.prog Γ Tryz.f18 3 [] (d4 Z0::l) (dz Z0 (GO Γ w XA LN BD A T l))
theorem Je(w:bn)(XA LN BD:Nat)(A:AX)(T:bn)(hA:AxOk A)(hb:(T.length:Int)+((axL w A).length:Int)<=900000)(hw:(w.length:Int)<=100)(bk3 C0:Nat){Z0 Z:Hp}{l:List Asrt}(L:bn)(hi:AxW w T A 0 L):den (HG Γ w XA LN BD A T Z0 l) (.stop [0,1,1] Ig [.blk 4 [.ptr 0 0] 51,.asr 0,.blk 3 [vT 0] 9,.blk 1 [.fn 14 [] [.ptr 2 0]] 66,.asr 2]) ⟨0,1,0,0,5,3⟩ (va {t:=[w],n:=[XA,LN,BD,bk3,C0],a:=[axA XA A,cp BD T,cp BD L]}) Z:=by
 haveI:Mute (HG Γ w XA LN BD A T Z0 l).Γ:=(inferInstance:Mute Γ)
 refine jJ (β:=Unit) (p:=[0,1,1]) (la:=[own C0 (.cells [.ptr XA 0] 51),axA XA A]) (lb:=[]) rfl bm 8 (.fn 41 [] [.ptr 4 0]) bm rfl (SA Γ C0 XA A sF sF sF) [own bk3 (.cells [sV w] 9),own LN (.cells [.func (.func 14) [] [.ptr BD 0]] 66),cp BD L] (λ(L:bn)=>[own bk3 (.cells [sV w] 9),own LN (.cells [.func (.func 14) [] [.ptr BD 0]] 66),cp BD L]) (λ(k:Nat) (L:bn)=>AxW w T A k L) .ret rfl (λ_=>[]) (λ_=>False) (λ_ _ s=>s) (λ_ _ _ s=>⟨L,hi,s⟩) ?_ ?_ (λ_ _ h=>h.elim)
 .intro k hk rv L hi Z B l tm hs;refine lp (fr:=Ig) (c:=⟨2,1,1,0,5,3⟩) (ρ:=va {i:=[((lget (idsOf A) (k:Int)).1),((lget (idsOf A) (k:Int)).2)],t:=[w],b:=[(lget (gh A) (k:Int))],n:=[XA,LN,BD,bk3,C0],a:=[axA XA A,cp BD T,cp BD L]}) [.agg [vI 0,vI 1],vB 0] (mem:=[.blk 3 [vT 0] 9,.blk 1 [.fn 14 [] [.ptr 2 0]] 66,.asr 2]) (win:=[]) (N:=100000) (ta:=.new<|.fin .normal [(2,.ptr 1 0),(3,.ptr 3 0),(5,.ptr 5 0),(6,vB 0)] [.blk 5 [vI 0,vI 1] 43,.blk 3 [vT 0] 9,.blk 1 [.fn 14 [] [.ptr 2 0]] 66,.asr 2]) bm (λ_ h=>by cases h) rfl bm bm (by rfl) hs rfl ?_;refine bA λbk5=>?_;refine yu (win:=[]) (tb:=.fork (.bv 0) (.call 20 [.agg [vI 0,vI 1]] [] (vT 1) [] ⟨2,2,1,0,6,3⟩<|.new<|.swap [.blk 6 [vT 0,vT 1] 9] [.asr 3] ⟨2,2,1,0,7,4⟩<|.call 14 [.slice 6 0 2 2,.ptr 2 0] [.asr 3,.asr 2] (.tup []) [.asr 4] ⟨2,2,1,0,7,5⟩<|.fin .normal [] O7)<|.call 20 [.agg [vI 0,vI 1]] [] (vT 1) [] ⟨2,2,1,0,6,3⟩<|.new<|.swap [.blk 6 [vT 0,vT 1,.txt (.tl [100,101,97,100])] 9] [.asr 3] ⟨2,2,1,0,7,4⟩<|.call 14 [.slice 6 0 3 3,.ptr 2 0] [.asr 3,.asr 2] (.tup []) [.asr 4] ⟨2,2,1,0,7,5⟩<|.fin .normal [] O7) (N:=100000) bm (λ_ h=>by cases h) λl=>?_;refine bo ((lget (gh A) (k:Int))=true) rfl (λcd1=>?_) λcd1=>?_
  .refine dcU {t:=[(idB ((lget (idsOf A) (k:Int)).1) ((lget (idsOf A) (k:Int)).2))]} (λ_ _=>Ji Γ ((lget (idsOf A) (k:Int)).1) ((lget (idsOf A) (k:Int)).2) sF) λZ=>?_;refine bA λbk6=>?_;refine dsU {a:=[lsA 9 1 txE (.slice bk6 0 2 2) [w,(idB ((lget (idsOf A) (k:Int)).1) ((lget (idsOf A) (k:Int)).2))]]} (λl h hs=>iU (enc:=txE) (L:=[w,(idB ((lget (idsOf A) (k:Int)).1) ((lget (idsOf A) (k:Int)).2))]) (λ_ _=>⟨rfl,rfl⟩) rfl rfl (by decide) (hs) (m:=l) (h:=h)) ?_;refine dcU {a:=[cp BD (L++Go.Lib.join ([w,(idB ((lget (idsOf A) (k:Int)).1) ((lget (idsOf A) (k:Int)).2))]) [32]++[10])]} (λl h hs=>(by have hr:=tW Γ (.slice bk6 0 2 2) BD ([w,(idB ((lget (idsOf A) (k:Int)).1) ((lget (idsOf A) (k:Int)).2))]) L sF (Z0:=Z) (l:=l) (h:=h) TP;first|exact hr|(simp only[RC,bN,bP]at hr;exact hr)|(simp only[RC,bN,bP,qD]at hr;exact hr))) λZ=>?_;exact nS (L++Go.Lib.join ([w,(idB ((lget (idsOf A) (k:Int)).1) ((lget (idsOf A) (k:Int)).2))]) [32]++[10]) sF rfl
  .refine dcU {t:=[(idB ((lget (idsOf A) (k:Int)).1) ((lget (idsOf A) (k:Int)).2))]} (λ_ _=>Ji Γ ((lget (idsOf A) (k:Int)).1) ((lget (idsOf A) (k:Int)).2) sF) λZ=>?_;refine bA λbk6=>?_;refine dsU {a:=[lsA 9 1 txE (.slice bk6 0 3 3) [w,(idB ((lget (idsOf A) (k:Int)).1) ((lget (idsOf A) (k:Int)).2)),([100,101,97,100]:bn)]]} (λl h hs=>iU (enc:=txE) (L:=[w,(idB ((lget (idsOf A) (k:Int)).1) ((lget (idsOf A) (k:Int)).2)),([100,101,97,100]:bn)]) (λ_ _=>⟨rfl,rfl⟩) rfl rfl (by decide) (hs) (m:=l) (h:=h)) ?_;refine dcU {a:=[cp BD (L++Go.Lib.join ([w,(idB ((lget (idsOf A) (k:Int)).1) ((lget (idsOf A) (k:Int)).2)),([100,101,97,100]:bn)]) [32]++[10])]} (λl h hs=>(by have hr:=tW Γ (.slice bk6 0 3 3) BD ([w,(idB ((lget (idsOf A) (k:Int)).1) ((lget (idsOf A) (k:Int)).2)),([100,101,97,100]:bn)]) L sF (Z0:=Z) (l:=l) (h:=h) TP;first|exact hr|(simp only[RC,bN,bP]at hr;exact hr)|(simp only[RC,bN,bP,qD]at hr;exact hr))) λZ=>?_;exact nS (L++Go.Lib.join ([w,(idB ((lget (idsOf A) (k:Int)).1) ((lget (idsOf A) (k:Int)).2)),([100,101,97,100]:bn)]) [32]++[10]) sF rfl
 .intro Z L hi dm5;refine sZ (C:=HG Γ w XA LN BD A T Z0 l) jY (N:=100000) (fr':=Ig) (mem:=[.obj 5 (.deferred true),.blk 4 [.ptr 0 0] 51,.asr 0,.blk 3 [vT 0] 9,.blk 1 [.fn 14 [] [.ptr 2 0]] 66,.asr 2]) (win:=[]) (c:=⟨0,1,0,0,6,3⟩) (mks:=[5]) (t:=.ret (.tup []) [.blk 1 [.fn 14 [] [.ptr 2 0]] 66,.asr 0,.asr 2]) (va {t:=[w],n:=[XA,LN,BD,bk3,C0,dm5],a:=[axA XA A,cp BD T,cp BD L]}) bm ((show _=([(8,.func (.func 41) [] [.ptr C0 0]),(2,.ptr LN 0),(3,.ptr bk3 0)]:List (Nat×SV))from rfl).trans (show([(8,.func (.func 41) [] [.ptr C0 0]),(2,.ptr LN 0),(3,.ptr bk3 0)]:List (Nat×SV))=_ from rfl)) rfl rfl (λ_ h=>by cases h) ?_;show den (fnC Tryz.prog Γ Tryz.f18 3 [dm5] (d4 Z0::l) (dz Z0 (GO Γ w XA LN BD A T l))) _ _ _ _;exact an λh hs=>⟨TH,TS,by first|exact hs|(have e:=hi.e;rw[List.take_length]at e;subst e;exact hs)⟩
theorem Kx(w:bn)(XA LN BD:Nat)(A:AX)(T:bn)(hA:AxOk A)(hb:(T.length:Int)+((axL w A).length:Int)<=900000)(hw:(w.length:Int)<=100)(hs:St Z0 (own LN (.cells [.func (.func 14) [] [.ptr BD 0]] 66)::axA XA A::cp BD T::l) h):RC Γ Z0 18 [sV w,.ptr XA 0,.ptr LN 0] h (GO Γ w XA LN BD A T l):=by
 refine bL Tryz.f18 Tryz.func18 [vT 0,.ptr 0 0,.ptr 1 0] [.blk 1 [.fn 14 [] [.ptr 2 0]] 66,.asr 0,.asr 1] ⟨0,1,0,0,3,2⟩ (va {t:=[w],n:=[XA,LN,BD],a:=[axA XA A,cp BD T]}) (.new<|.call 19 [.ptr 0 0] [] (.fn 41 [] [.ptr 4 0]) [.blk 4 [.ptr 0 0] 51] ⟨0,1,0,0,5,2⟩<|.stop [0,1,1] Ig [.blk 4 [.ptr 0 0] 51,.asr 0,.blk 3 [vT 0] 9,.blk 1 [.fn 14 [] [.ptr 2 0]] 66,.asr 1]) hs ?_;refine bA λbk3=>?_;refine bS (λ(C0:Nat)=>{n:=[C0]}) _ (λ_ _=>Tb Γ XA) λZ C0 qd0=>?_;exact bu (Je Γ w XA LN BD A T hA hb hw bk3 C0 T sF) rfl rfl
def cellLn(y:CK×CT):bn:=([99,101,108,108]++32::(idB y.1.1 y.1.2.1++32::(idB y.1.2.2.1 y.1.2.2.2++32::ft.esc (codeTx y.2))))++[10]
def nameLn(y:bn×NT):bn:=([110,97,109,101]++32::(y.1++32::ft.esc (codeT (Tr.mk y.2.x y.2.ks))))++[10]
theorem uk(M:List (CK×CT)):cellsL M=M.flatMap cellLn:=rfl
theorem sS(N:List (bn×NT)):namesL N=N.flatMap nameLn:=rfl
theorem BZ{α:Type}(f:α->bn)(M:List α)(k:Nat):(((M.take k).flatMap f).length:Int)<=((M.flatMap f).length:Int):=by
 have:M.flatMap f=(M.take k++M.drop k).flatMap f:=by rw[List.take_append_drop]
 rw[this,List.flatMap_append,ac];omega
theorem tj{α:Type}[Inhabited α](f:α->bn){M:List α}{k:Nat}(h:k<M.length):(M.take (k+1)).flatMap f=(M.take k).flatMap f++f (lget M (k:Int)):=by
 have e:=eh (L:=M) (i:=(k:Int)) bj bj;rw[show((k:Int)+1).toNat=k+1 by omega,Int.toNat_natCast]at e;rw[e,List.flatMap_append,List.flatMap_cons,List.flatMap_nil,List.append_nil]
theorem vn{κ α:Type}[DecidableEq κ][Inhabited κ][Inhabited α]{M:List (κ×α)}(hn:(M.map Prod.fst).Nodup){i:Int}(h0:0<=i)(h1:i<(M.length:Int)):lget M i=(lget (M.map Prod.fst) i,mget M (lget (M.map Prod.fst) i)):=by
 have e1:=dG (L:=M) h0 h1;have e2:=dG (L:=M.map Prod.fst) h0 (by rw[ao];exact h1);rw[aV,e1,af,a7]at e2;have hm:lget M i∈M:=fz h0 h1;have key:∀(L:List (κ×α)),(L.map Prod.fst).Nodup->∀y∈L,dZ L y.1=some y.2:=by
  intro L
  induction L with
  |nil=>intro _ y hy;cases hy
  |cons a l ih=>
   intro hn y hy;obtain⟨a1,a2⟩:=a;have hn:=List.nodup_cons.1 hn;rw[dZ];rcases aD.1 hy with rfl|hy
   .rw[bi rfl]
   .rw[bh λe=>hn.1 (List.mem_map.2 ⟨y,hy,e⟩)];exact ih hn.2 y hy
 rw[<-e2,mget,key M hn _ hm];rfl
theorem ud{M:List (CK×CT)}(w:StOk M):(M.map Prod.fst).Nodup:=w.s.imp (S:=λa b=>a≠b) λ{a b} h (e:a=b)=>B7 (x:=b) (by rw[e]at h;exact h)
theorem Gi{N:List (bn×NT)}(w:NtOk N):(N.map Prod.fst).Nodup:=w.s.imp (S:=λa b=>a≠b) λ{a b} h (e:a=b)=>List.lt_irrefl a (by have:=p8.1 h;rw[<-e]at this;exact this)
structure CelW(T:bn)(M:List (CK×CT))(k:Nat)(L:bn):Prop where
 e:L=T++(M.take k).flatMap cellLn
 b:(T.length:Int)+((cellsL M).length:Int)<=850000
structure NamW(T:bn)(N:List (bn×NT))(k:Nat)(L:bn):Prop where
 e:L=T++(N.take k).flatMap nameLn
 b:(T.length:Int)+((namesL N).length:Int)<=850000
section
variable {T L:bn}{M:List (CK×CT)}{N:List (bn×NT)}{k:Nat}
theorem PJ(h:(T.length:Int)+((cellsL M).length:Int)<=850000):CelW T M 0 T:=⟨by simp,h⟩
theorem QA(h:(T.length:Int)+((namesL N).length:Int)<=850000):NamW T N 0 T:=⟨by simp,h⟩
theorem CelW.len(v:CelW T M k L):(L.length:Int)<=850000:=by
 have h1:=v.b;have h2:=BZ cellLn M k;rw[v.e,ac];rw[uk]at h1;omega
theorem NamW.len(v:NamW T N k L):(L.length:Int)<=850000:=by
 have h1:=v.b;have h2:=BZ nameLn N k;rw[v.e,ac];rw[sS]at h1;omega
theorem zc{er:Int}{code:bn}(v:CelW T M k L)(w:StOk M)(h:k<M.length)(q:(code,er)=codeC (mget M (eC (kC M k))).k (mget M (eC (kC M k))).vk (mget M (eC (kC M k))).m (mget M (eC (kC M k))).e (mget M (eC (kC M k))).t (mget M (eC (kC M k))).b (mget M (eC (kC M k))).f (mget M (eC (kC M k))).x (mget M (eC (kC M k))).ks):
 CelW T M (k+1) (L++Go.Lib.join [[99,101,108,108],idB (kC M k).1 (kC M k).2.1,idB (kC M k).2.2.1 (kC M k).2.2.2,ft.esc code] [32]++[10]):=by
 have hm:=vn (M:=M) (ud w) (i:=(k:Int)) bj bj;refine⟨?_,v.b⟩;rw[v.e,tj cellLn h,hm,P5,cellLn];have hc:codeTx (mget M (kC M k))=code:=by
  unfold codeTx;exact congrArg Prod.fst q.symm
 show _=T++((M.take k).flatMap cellLn++(([99,101,108,108]++32::(idB (kC M k).1 (kC M k).2.1++32::(idB (kC M k).2.2.1 (kC M k).2.2.2++32::ft.esc (codeTx (mget M (kC M k))))))++[10]));rw[hc];simp
theorem xp{code:bn}(v:NamW T N k L)(w:NtOk N)(h:k<N.length)(q:code=codeT (Tr.mk (mget N (lget (bw N) (k:Int))).x (mget N (lget (bw N) (k:Int))).ks)):
 NamW T N (k+1) (L++Go.Lib.join [[110,97,109,101],lget (bw N) (k:Int),ft.esc code] [32]++[10]):=by
 have hm:=vn (M:=N) (Gi w) (i:=(k:Int)) bj bj;refine⟨?_,v.b⟩;rw[v.e,tj nameLn h,hm,Kz,nameLn,q];simp
end
def tx1(A B:AX):bn:=headB++10::(axL [114,111,119] A++axL [99,111,108] B)
noncomputable def ij(A B:AX)(M:List (CK×CT))(N:List (bn×NT)):bn:=tx1 A B++(cellsL M++(namesL N++endB))
section
variable {T L:bn}{A B:AX}{M:List (CK×CT)}{N:List (bn×NT)}
theorem OP(h:L=tx1 A B)(hb:((ij A B M N).length:Int)<=800000):CelW (tx1 A B) M 0 L:=by
 rw[h];refine PJ ?_;unfold ij at hb;rw[ac,ac]at hb;omega
theorem Pr(v:CelW (tx1 A B) M M.length L)(hb:((ij A B M N).length:Int)<=800000):NamW (tx1 A B++cellsL M) N 0 L:=by
 have e:=v.e;rw[List.take_length,<-uk]at e;rw[e];refine QA ?_;unfold ij at hb;rw[ac,ac,ac]at hb;rw[ac];omega
theorem E6(v:NamW (tx1 A B++cellsL M) N N.length L):L++Go.Lib.join [[101,110,100]] [32]++[10]=ij A B M N:=by
 have e:=v.e;rw[List.take_length,<-sS]at e;rw[e,tQ,ij];simp[endB]
theorem Rw:([]:bn)++Go.Lib.join [[99,111,117,110,116,101,114,112,97,110,101,32,49]] [32]++[10]++axL [114,111,119] A++axL [99,111,108] B=tx1 A B:=by
 rw[tQ];simp[tx1,headB]
theorem Sm(hb:((ij A B M N).length:Int)<=800000):((axL [114,111,119] A).length:Int)+((axL [99,111,108] B).length:Int)+14<=800000:=by
 unfold ij tx1 at hb;simp only[ac,au]at hb;have:headB.length=13:=rfl;omega
end
section
variable {M:List (CK×CT)}{N:List (bn×NT)}{k:Nat}
theorem ck(w:StOk M)(h:k<M.length):CtOk (mget M (eC (kC M k))):=w.get (cM bj (by simp only[eu,ao];omega))
theorem nk(w:NtOk N)(h:k<N.length):TrOk (mget N (lget (bw N) (k:Int))):=w.get (fd bj (by simp only[bw,ao];omega))
theorem ci(w:StOk M)(h:k<M.length):I64C (kC M k):=by
 have hm:=vn (M:=M) (ud w) (i:=(k:Int)) bj bj;have:=w.i _ (fz (L:=M) (i:=(k:Int)) bj bj);rw[hm]at this;exact this
theorem Jg{c:bn}{er:Int}{t:CT}(ok:CtOk t)(q:(c,er)=codeC t.k t.vk t.m t.e t.t t.b t.f t.x t.ks):(c.length:Int)<=3000:=by
 obtain⟨x,h1,h2⟩:=ok.e;rw[h1]at q;cases q;exact h2
theorem G1{c:bn}{e:Int}{t:NT}(ok:TrOk t)(q:e=checkB (Tr.mk t.x t.ks)/\c=(if checkB (Tr.mk t.x t.ks)=0 then codeT (Tr.mk t.x t.ks)else[])):c=codeT (Tr.mk t.x t.ks):=by rw[q.2,bi ok.e.1]
theorem F8{c:bn}{e:Int}{t:NT}(ok:TrOk t)(q:e=checkB (Tr.mk t.x t.ks)/\c=(if checkB (Tr.mk t.x t.ks)=0 then codeT (Tr.mk t.x t.ks)else[])):(c.length:Int)<=3000:=by rw[G1 ok q];exact ok.e.2
end
abbrev qb(Γ:Glob)(SB XA:Nat)(YA CE NA:Nat)(A1 B1:AX)(M:List (CK×CT))(N:List (bn×NT)):TG:=λl Zq vq hq=>∃tx:bn,(tx=ij A1 B1 M N)/\vq=.tuple [sV tx,iV 0]/\St Zq (l) hq
noncomputable abbrev G3(Γ:Glob)(SB XA:Nat)(YA CE NA:Nat)(A1 B1:AX)(M:List (CK×CT))(N:List (bn×NT))(Z0:Hp)(l:List Asrt):Cx:=fnC Tryz.prog Γ Tryz.f6 1 [] (d4 Z0::l) (dz Z0 (qb Γ SB XA YA CE NA A1 B1 M N l))
theorem JS(SB XA:Nat)(YA CE NA:Nat)(A1 B1:AX)(M:List (CK×CT))(N:List (bn×NT))(hA:AxOk A1)(hB:AxOk B1)(hM:StOk M)(hN:NtOk N)(hb:((ij A1 B1 M N).length:Int)<=800000)(bk5 bk6:Nat)(bk7 C7:Nat)(L:bn)(dm9 C50:Nat){Z0 Z:Hp}{l:List Asrt}(L:bn)(hi:NamW (tx1 A1 B1++cellsL M) N 0 L):den (fnC Tryz.prog Γ Tryz.f6 1 [dm9] (d4 Z0::l) (dz Z0 (qb Γ SB XA YA CE NA A1 B1 M N l))) (.stop [0,1,0,1,1,1,1,1,1,1,1,1] I4 [.blk 10 [.ptr 4 0] 36,.asr 3,.obj 9 (.deferred true),.blk 8 [.ptr 3 0] 34,.asr 2,.blk 6 [.fn 14 [] [.ptr 5 0]] 66,.asr 9,.asr 12,.asr 7,.blk 0 oc 54]) ⟨0,0,0,0,11,13⟩ (va {n:=[SB,XA,YA,CE,NA,bk5,bk6,bk7,C7,dm9,C50],a:=[axA XA A1,axA YA B1,stA CE Γ M,tbA NA Γ N,lsA 9 1 txE (.slice bk7 0 1 1) [([99,111,117,110,116,101,114,112,97,110,101,32,49]:bn)],cp bk5 [],cp bk5 (([])++Go.Lib.join ([([99,111,117,110,116,101,114,112,97,110,101,32,49]:bn)]) [32]++[10]),axA XA A1,cp bk5 ((([])++Go.Lib.join ([([99,111,117,110,116,101,114,112,97,110,101,32,49]:bn)]) [32]++[10])++axL ([114,111,119]:bn) A1),axA YA B1,cp bk5 (((([])++Go.Lib.join ([([99,111,117,110,116,101,114,112,97,110,101,32,49]:bn)]) [32]++[10])++axL ([114,111,119]:bn) A1)++axL ([99,111,108]:bn) B1),cp bk5 L,cp bk5 L]}) Z:=by
 haveI:Mute (fnC Tryz.prog Γ Tryz.f6 1 [dm9] (d4 Z0::l) (dz Z0 (qb Γ SB XA YA CE NA A1 B1 M N l))).Γ:=(inferInstance:Mute Γ)
 refine jJ (β:=Unit) (p:=[0,1,0,1,1,1,1,1,1,1,1,1]) (la:=[own C50 (.cells [.ptr NA 0] 36),tbA NA Γ N]) (lb:=[]) rfl bm 89 (.fn 53 [] [.ptr 10 0]) bm rfl (Qh Γ C50 NA N gB) [own dm9 (.deferred true),own C7 (.cells [.ptr CE 0] 34),stA CE Γ M,own bk6 (.cells [.func (.func 14) [] [.ptr bk5 0]] 66),axA YA B1,cp bk5 L,axA XA A1,own SB (.cells [.ptr XA 0,.ptr YA 0,.ptr CE 0,.ptr NA 0] 54)] (λ(L:bn)=>[own dm9 (.deferred true),own C7 (.cells [.ptr CE 0] 34),stA CE Γ M,own bk6 (.cells [.func (.func 14) [] [.ptr bk5 0]] 66),axA YA B1,cp bk5 L,axA XA A1,own SB (.cells [.ptr XA 0,.ptr YA 0,.ptr CE 0,.ptr NA 0] 54)]) (λ(k:Nat) (L:bn)=>NamW (tx1 A1 B1++cellsL M) N k L) .ret rfl (λ_=>[]) (λ_=>False) (λ_ _ s=>s) (λ_ _ _ s=>⟨L,hi,s⟩) ?_ ?_ (λ_ _ h=>h.elim)
 .intro k hk rv L hi Z B l tm hs;refine lp (fr:=I4) (c:=⟨14,3,5,1,11,14⟩) (ρ:=va {i:=[((mget N (lget (bw N) (k:Int))).x.k),((mget N (lget (bw N) (k:Int))).x.v0),((mget N (lget (bw N) (k:Int))).x.v1),((mget N (lget (bw N) (k:Int))).x.v2),((mget N (lget (bw N) (k:Int))).x.v5),((mget N (lget (bw N) (k:Int))).x.a0),((mget N (lget (bw N) (k:Int))).x.a1),((mget N (lget (bw N) (k:Int))).x.a2),((mget N (lget (bw N) (k:Int))).x.a3),((mget N (lget (bw N) (k:Int))).x.b0),((mget N (lget (bw N) (k:Int))).x.b1),((mget N (lget (bw N) (k:Int))).x.b2),((mget N (lget (bw N) (k:Int))).x.b3),((mget N (lget (bw N) (k:Int))).x.rows)],t:=[(lget (bw N) (k:Int)),((mget N (lget (bw N) (k:Int))).x.v3),((mget N (lget (bw N) (k:Int))).x.name)],b:=[((mget N (lget (bw N) (k:Int))).x.v4),((mget N (lget (bw N) (k:Int))).x.a4),((mget N (lget (bw N) (k:Int))).x.a5),((mget N (lget (bw N) (k:Int))).x.b4),((mget N (lget (bw N) (k:Int))).x.b5)],r:=[rv],n:=[SB,XA,YA,CE,NA,bk5,bk6,bk7,C7,dm9,C50],a:=[axA XA A1,axA YA B1,stA CE Γ M,tbA NA Γ N,lsA 9 1 txE (.slice bk7 0 1 1) [([99,111,117,110,116,101,114,112,97,110,101,32,49]:bn)],cp bk5 [],cp bk5 (([])++Go.Lib.join ([([99,111,117,110,116,101,114,112,97,110,101,32,49]:bn)]) [32]++[10]),axA XA A1,cp bk5 ((([])++Go.Lib.join ([([99,111,117,110,116,101,114,112,97,110,101,32,49]:bn)]) [32]++[10])++axL ([114,111,119]:bn) A1),axA YA B1,cp bk5 (((([])++Go.Lib.join ([([99,111,117,110,116,101,114,112,97,110,101,32,49]:bn)]) [32]++[10])++axL ([114,111,119]:bn) A1)++axL ([99,111,108]:bn) B1),cp bk5 L,cp bk5 L,br Γ (oneS rv) (mget N (lget (bw N) (k:Int))).ks]}) [vT 0,.agg TV] (mem:=[.asr 13,.obj 9 (.deferred true),.blk 8 [.ptr 3 0] 34,.asr 2,.blk 6 [.fn 14 [] [.ptr 5 0]] 66,.asr 9,.asr 12,.asr 7,.blk 0 oc 54]) (win:=[]) (N:=100000) (ta:=.new<|.fin .normal [(5,.ptr 6 0),(11,vT 0),(12,.ptr 11 0)] [.blk 11 TV 85,.asr 13,.obj 9 (.deferred true),.blk 8 [.ptr 3 0] 34,.asr 2,.blk 6 [.fn 14 [] [.ptr 5 0]] 66,.asr 9,.asr 12,.asr 7,.blk 0 oc 54]) bm (λ_ h=>by cases h) rfl bm bm (by rfl) hs rfl ?_;refine bA λbk11=>?_;refine yu (win:=[]) (tb:=.call 25 [.agg TV] [.asr 13] (.tup [vT 3,vI 14]) [.asr 14] ⟨15,4,5,1,12,15⟩<|.call 23 [vT 3] [] (vT 4) [] ⟨15,5,5,1,12,15⟩<|.new<|.swap [.blk 12 [.txt (.tl [110,97,109,101]),vT 0,vT 4] 9] [.asr 15] ⟨15,5,5,1,13,16⟩<|.call 14 [.slice 12 0 3 3,.ptr 5 0] [.asr 15,.asr 12] (.tup []) [.asr 16] ⟨15,5,5,1,13,17⟩<|.fin .normal [] [.obj 9 (.deferred true),.blk 8 [.ptr 3 0] 34,.asr 2,.blk 6 [.fn 14 [] [.ptr 5 0]] 66,.asr 9,.asr 16,.asr 7,.blk 0 oc 54]) (N:=100000) bm (λ_ h=>by cases h) λl=>?_;refine dc2 (λ(c0:bn) (e0:Int)=>{i:=[e0],t:=[c0],a:=[br Γ (oneS rv) ((mget N (lget (bw N) (k:Int))).ks)]}) _ (λ_ _=>JG Γ (mget N (lget (bw N) (k:Int))).x rv ((mget N (lget (bw N) (k:Int))).ks) gB gB) λZ c0 e0 qd0=>?_;refine dcU {t:=[(ft.esc c0)]} (λ_ _=>Py Γ c0 gB) λZ=>?_;refine bA λbk12=>?_;refine dsU {a:=[lsA 9 1 txE (.slice bk12 0 3 3) [([110,97,109,101]:bn),(lget (bw N) (k:Int)),(ft.esc c0)]]} (λl h hs=>iU (enc:=txE) (L:=[([110,97,109,101]:bn),(lget (bw N) (k:Int)),(ft.esc c0)]) (λ_ _=>⟨rfl,rfl⟩) rfl rfl (by decide) (hs) (m:=l) (h:=h)) ?_;refine dcU {a:=[cp bk5 (L++Go.Lib.join ([([110,97,109,101]:bn),(lget (bw N) (k:Int)),(ft.esc c0)]) [32]++[10])]} (λl h hs=>(by have hr:=tW Γ (.slice bk12 0 3 3) bk5 ([([110,97,109,101]:bn),(lget (bw N) (k:Int)),(ft.esc c0)]) L gB (Z0:=Z) (l:=l) (h:=h) TP;first|exact hr|(simp only[RC,bN,bP]at hr;exact hr)|(simp only[RC,bN,bP,qD]at hr;exact hr))) λZ=>?_;exact nS (L++Go.Lib.join ([([110,97,109,101]:bn),(lget (bw N) (k:Int)),(ft.esc c0)]) [32]++[10]) gB rfl
 .intro Z L hi dm11;refine sZ (C:=fnC Tryz.prog Γ Tryz.f6 1 [dm9] (d4 Z0::l) (dz Z0 (qb Γ SB XA YA CE NA A1 B1 M N l))) jY (N:=100000) (fr':=I4) (mem:=[.obj 11 (.deferred true),.blk 10 [.ptr 4 0] 36,.asr 3,.obj 9 (.deferred true),.blk 8 [.ptr 3 0] 34,.asr 2,.blk 6 [.fn 14 [] [.ptr 5 0]] 66,.asr 9,.asr 12,.asr 7,.blk 0 oc 54]) (win:=[]) (c:=⟨0,0,0,0,12,13⟩) (mks:=[11,9]) (t:=.new<|.swap [.blk 12 [.txt (.tl [101,110,100])] 9] [.asr 13] ⟨0,0,0,0,13,14⟩<|.call 14 [.slice 12 0 1 1,.ptr 5 0] [.asr 13,.asr 12] (.tup []) [.asr 14] ⟨0,0,0,0,13,15⟩<|.call 26 [.ptr 5 0] [.asr 14] (vT 0) [] ⟨0,1,0,0,13,15⟩<|.ret (.tup [vT 0,Fd]) []) (va {n:=[SB,XA,YA,CE,NA,bk5,bk6,bk7,C7,dm9,C50,dm11],a:=[axA XA A1,axA YA B1,stA CE Γ M,tbA NA Γ N,lsA 9 1 txE (.slice bk7 0 1 1) [([99,111,117,110,116,101,114,112,97,110,101,32,49]:bn)],cp bk5 [],cp bk5 (([])++Go.Lib.join ([([99,111,117,110,116,101,114,112,97,110,101,32,49]:bn)]) [32]++[10]),axA XA A1,cp bk5 ((([])++Go.Lib.join ([([99,111,117,110,116,101,114,112,97,110,101,32,49]:bn)]) [32]++[10])++axL ([114,111,119]:bn) A1),axA YA B1,cp bk5 (((([])++Go.Lib.join ([([99,111,117,110,116,101,114,112,97,110,101,32,49]:bn)]) [32]++[10])++axL ([114,111,119]:bn) A1)++axL ([99,111,108]:bn) B1),cp bk5 L,cp bk5 L]}) bm ((show _=([(89,.func (.func 53) [] [.ptr C50 0]),(4,.ptr bk5 0),(5,.ptr bk6 0)]:List (Nat×SV))from rfl).trans (show([(89,.func (.func 53) [] [.ptr C50 0]),(4,.ptr bk5 0),(5,.ptr bk6 0)]:List (Nat×SV))=_ from rfl)) rfl rfl (λ_ h=>by cases h) ?_;show den (fnC Tryz.prog Γ Tryz.f6 1 [dm11,dm9] (d4 Z0::l) (dz Z0 (qb Γ SB XA YA CE NA A1 B1 M N l))) _ _ _ _;refine bA λbk12=>?_;refine dsU {a:=[lsA 9 1 txE (.slice bk12 0 1 1) [([101,110,100]:bn)]]} (λl h hs=>iU (enc:=txE) (L:=[([101,110,100]:bn)]) (λ_ _=>⟨rfl,rfl⟩) rfl rfl (by decide) (hs) (m:=l) (h:=h)) ?_;refine dcU {a:=[cp bk5 (L++Go.Lib.join ([([101,110,100]:bn)]) [32]++[10])]} (λl h hs=>(by have hr:=tW Γ (.slice bk12 0 1 1) bk5 ([([101,110,100]:bn)]) L gB (Z0:=Z) (l:=l) (h:=h) TP;first|exact hr|(simp only[RC,bN,bP]at hr;exact hr)|(simp only[RC,bN,bP,qD]at hr;exact hr))) λZ=>?_;refine dcU {t:=[(L++Go.Lib.join ([([101,110,100]:bn)]) [32]++[10])]} (λ_ _=>M1 Γ bk5 (L++Go.Lib.join ([([101,110,100]:bn)]) [32]++[10]) gB) λZ=>?_;exact an λh hs=>⟨(L++Go.Lib.join ([([101,110,100]:bn)]) [32]++[10]),gB,rfl,hs⟩
theorem Jj(SB XA:Nat)(YA CE NA:Nat)(A1 B1:AX)(M:List (CK×CT))(N:List (bn×NT))(hA:AxOk A1)(hB:AxOk B1)(hM:StOk M)(hN:NtOk N)(hb:((ij A1 B1 M N).length:Int)<=800000)(bk5 bk6:Nat)(bk7 C7:Nat){Z0 Z:Hp}{l:List Asrt}(L:bn)(hi:CelW (tx1 A1 B1) M 0 L):den (G3 Γ SB XA YA CE NA A1 B1 M N Z0 l) (.stop [0,1,0,1,1,1,1,1,1,1,1] IG [.blk 8 [.ptr 3 0] 34,.asr 2,.blk 6 [.fn 14 [] [.ptr 5 0]] 66,.asr 9,.asr 11,.asr 7,.blk 0 oc 54,.asr 3]) ⟨0,0,0,0,9,12⟩ (va {n:=[SB,XA,YA,CE,NA,bk5,bk6,bk7,C7],a:=[axA XA A1,axA YA B1,stA CE Γ M,tbA NA Γ N,lsA 9 1 txE (.slice bk7 0 1 1) [([99,111,117,110,116,101,114,112,97,110,101,32,49]:bn)],cp bk5 [],cp bk5 (([])++Go.Lib.join ([([99,111,117,110,116,101,114,112,97,110,101,32,49]:bn)]) [32]++[10]),axA XA A1,cp bk5 ((([])++Go.Lib.join ([([99,111,117,110,116,101,114,112,97,110,101,32,49]:bn)]) [32]++[10])++axL ([114,111,119]:bn) A1),axA YA B1,cp bk5 (((([])++Go.Lib.join ([([99,111,117,110,116,101,114,112,97,110,101,32,49]:bn)]) [32]++[10])++axL ([114,111,119]:bn) A1)++axL ([99,111,108]:bn) B1),cp bk5 L]}) Z:=by
 haveI:Mute (G3 Γ SB XA YA CE NA A1 B1 M N Z0 l).Γ:=(inferInstance:Mute Γ)
 refine jJ (β:=Unit) (p:=[0,1,0,1,1,1,1,1,1,1,1]) (la:=[own C7 (.cells [.ptr CE 0] 34),stA CE Γ M]) (lb:=[]) rfl bm 66 (.fn 45 [] [.ptr 8 0]) bm rfl (N4 Γ C7 CE M gB) [own bk6 (.cells [.func (.func 14) [] [.ptr bk5 0]] 66),axA YA B1,cp bk5 L,axA XA A1,own SB (.cells [.ptr XA 0,.ptr YA 0,.ptr CE 0,.ptr NA 0] 54),tbA NA Γ N] (λ(L:bn)=>[own bk6 (.cells [.func (.func 14) [] [.ptr bk5 0]] 66),axA YA B1,cp bk5 L,axA XA A1,own SB (.cells [.ptr XA 0,.ptr YA 0,.ptr CE 0,.ptr NA 0] 54),tbA NA Γ N]) (λ(k:Nat) (L:bn)=>CelW (tx1 A1 B1) M k L) .ret rfl (λ_=>[]) (λ_=>False) (λ_ _ s=>s) (λ_ _ _ s=>⟨L,hi,s⟩) ?_ ?_ (λ_ _ h=>h.elim)
 .intro k hk rv L hi Z B l tm hs;refine lp (fr:=IG) (c:=⟨23,3,6,1,9,13⟩) (ρ:=va {i:=[(kC M k).1,(kC M k).2.1,(kC M k).2.2.1,(kC M k).2.2.2,((mget M (eC (kC M k))).k),((mget M (eC (kC M k))).vk),((mget M (eC (kC M k))).m),((mget M (eC (kC M k))).e),((mget M (eC (kC M k))).f),((mget M (eC (kC M k))).x.k),((mget M (eC (kC M k))).x.v0),((mget M (eC (kC M k))).x.v1),((mget M (eC (kC M k))).x.v2),((mget M (eC (kC M k))).x.v5),((mget M (eC (kC M k))).x.a0),((mget M (eC (kC M k))).x.a1),((mget M (eC (kC M k))).x.a2),((mget M (eC (kC M k))).x.a3),((mget M (eC (kC M k))).x.b0),((mget M (eC (kC M k))).x.b1),((mget M (eC (kC M k))).x.b2),((mget M (eC (kC M k))).x.b3),((mget M (eC (kC M k))).x.rows)],t:=[((mget M (eC (kC M k))).t),((mget M (eC (kC M k))).x.v3),((mget M (eC (kC M k))).x.name)],b:=[((mget M (eC (kC M k))).b),((mget M (eC (kC M k))).x.v4),((mget M (eC (kC M k))).x.a4),((mget M (eC (kC M k))).x.a5),((mget M (eC (kC M k))).x.b4),((mget M (eC (kC M k))).x.b5)],r:=[rv],n:=[SB,XA,YA,CE,NA,bk5,bk6,bk7,C7],a:=[axA XA A1,axA YA B1,stA CE Γ M,tbA NA Γ N,lsA 9 1 txE (.slice bk7 0 1 1) [([99,111,117,110,116,101,114,112,97,110,101,32,49]:bn)],cp bk5 [],cp bk5 (([])++Go.Lib.join ([([99,111,117,110,116,101,114,112,97,110,101,32,49]:bn)]) [32]++[10]),axA XA A1,cp bk5 ((([])++Go.Lib.join ([([99,111,117,110,116,101,114,112,97,110,101,32,49]:bn)]) [32]++[10])++axL ([114,111,119]:bn) A1),axA YA B1,cp bk5 (((([])++Go.Lib.join ([([99,111,117,110,116,101,114,112,97,110,101,32,49]:bn)]) [32]++[10])++axL ([114,111,119]:bn) A1)++axL ([99,111,108]:bn) B1),cp bk5 L,br Γ (oneS rv) (mget M (eC (kC M k))).ks]}) [.agg [vI 0,vI 1,vI 2,vI 3],.agg T1] (mem:=[.asr 12,.blk 6 [.fn 14 [] [.ptr 5 0]] 66,.asr 9,.asr 11,.asr 7,.blk 0 oc 54,.asr 3]) (win:=[]) (N:=100000) (ta:=.new<|.new<|.fin .normal [(5,.ptr 6 0),(7,.ptr 9 0),(8,.ptr 10 0)] [.blk 10 T1 87,.blk 9 [vI 0,vI 1,vI 2,vI 3] 45,.asr 12,.blk 6 [.fn 14 [] [.ptr 5 0]] 66,.asr 9,.asr 11,.asr 7,.blk 0 oc 54,.asr 3]) bm (λ_ h=>by cases h) rfl bm bm (by rfl) hs rfl ?_;refine bA λbk9=>?_;refine bA λbk10=>?_;refine yu (win:=[]) (tb:=.call 22 [.agg T1] [.asr 12] (.tup [vT 3,vI 23]) [.asr 13] ⟨24,4,6,1,11,14⟩<|.call 20 [.agg [vI 0,vI 1]] [] (vT 4) [] ⟨24,5,6,1,11,14⟩<|.call 20 [.agg [vI 2,vI 3]] [] (vT 5) [] ⟨24,6,6,1,11,14⟩<|.call 23 [vT 3] [] (vT 6) [] ⟨24,7,6,1,11,14⟩<|.new<|.swap [.blk 11 [.txt (.tl [99,101,108,108]),vT 4,vT 5,vT 6] 9] [.asr 14] ⟨24,7,6,1,12,15⟩<|.call 14 [.slice 11 0 4 4,.ptr 5 0] [.asr 14,.asr 11] (.tup []) [.asr 15] ⟨24,7,6,1,12,16⟩<|.fin .normal [] [.blk 6 [.fn 14 [] [.ptr 5 0]] 66,.asr 9,.asr 15,.asr 7,.blk 0 oc 54,.asr 3]) (N:=100000) bm (λ_ h=>by cases h) λl=>?_;refine dc2 (λ(c0:bn) (er0:Int)=>{i:=[er0],t:=[c0],a:=[br Γ (oneS rv) ((mget M (eC (kC M k))).ks)]}) _ (λ_ _=>Ri Γ ((mget M (eC (kC M k))).k) ((mget M (eC (kC M k))).vk) ((mget M (eC (kC M k))).m) ((mget M (eC (kC M k))).e) ((mget M (eC (kC M k))).t) ((mget M (eC (kC M k))).b) ((mget M (eC (kC M k))).f) (mget M (eC (kC M k))).x rv ((mget M (eC (kC M k))).ks) gB gB gB gB) λZ c0 er0 qd0=>?_;refine dcU {t:=[(idB (kC M k).1 (kC M k).2.1)]} (λ_ _=>Ji Γ (kC M k).1 (kC M k).2.1 gB) λZ=>?_;refine dcU {t:=[(idB (kC M k).2.2.1 (kC M k).2.2.2)]} (λ_ _=>Ji Γ (kC M k).2.2.1 (kC M k).2.2.2 gB) λZ=>?_;refine dcU {t:=[(ft.esc c0)]} (λ_ _=>Py Γ c0 gB) λZ=>?_;refine bA λbk11=>?_;refine dsU {a:=[lsA 9 1 txE (.slice bk11 0 4 4) [([99,101,108,108]:bn),(idB (kC M k).1 (kC M k).2.1),(idB (kC M k).2.2.1 (kC M k).2.2.2),(ft.esc c0)]]} (λl h hs=>iU (enc:=txE) (L:=[([99,101,108,108]:bn),(idB (kC M k).1 (kC M k).2.1),(idB (kC M k).2.2.1 (kC M k).2.2.2),(ft.esc c0)]) (λ_ _=>⟨rfl,rfl⟩) rfl rfl (by decide) (hs) (m:=l) (h:=h)) ?_;refine dcU {a:=[cp bk5 (L++Go.Lib.join ([([99,101,108,108]:bn),(idB (kC M k).1 (kC M k).2.1),(idB (kC M k).2.2.1 (kC M k).2.2.2),(ft.esc c0)]) [32]++[10])]} (λl h hs=>(by have hr:=tW Γ (.slice bk11 0 4 4) bk5 ([([99,101,108,108]:bn),(idB (kC M k).1 (kC M k).2.1),(idB (kC M k).2.2.1 (kC M k).2.2.2),(ft.esc c0)]) L gB (Z0:=Z) (l:=l) (h:=h) TP;first|exact hr|(simp only[RC,bN,bP]at hr;exact hr)|(simp only[RC,bN,bP,qD]at hr;exact hr))) λZ=>?_;exact nS (L++Go.Lib.join ([([99,101,108,108]:bn),(idB (kC M k).1 (kC M k).2.1),(idB (kC M k).2.2.1 (kC M k).2.2.2),(ft.esc c0)]) [32]++[10]) gB rfl
 .intro Z L hi dm9;refine sZ (C:=G3 Γ SB XA YA CE NA A1 B1 M N Z0 l) jY (N:=100000) (fr':=IG) (mem:=[.obj 9 (.deferred true),.blk 8 [.ptr 3 0] 34,.asr 2,.blk 6 [.fn 14 [] [.ptr 5 0]] 66,.asr 9,.asr 11,.asr 7,.blk 0 oc 54,.asr 3]) (win:=[]) (c:=⟨0,0,0,0,10,12⟩) (mks:=[9]) (t:=.call 24 [.ptr 4 0] [] (.fn 53 [] [.ptr 10 0]) [.blk 10 [.ptr 4 0] 36] ⟨0,0,0,0,11,12⟩<|.stop [0,1,0,1,1,1,1,1,1,1,1,1] I4 [.blk 10 [.ptr 4 0] 36,.asr 3,.obj 9 (.deferred true),.blk 8 [.ptr 3 0] 34,.asr 2,.blk 6 [.fn 14 [] [.ptr 5 0]] 66,.asr 9,.asr 11,.asr 7,.blk 0 oc 54]) (va {n:=[SB,XA,YA,CE,NA,bk5,bk6,bk7,C7,dm9],a:=[axA XA A1,axA YA B1,stA CE Γ M,tbA NA Γ N,lsA 9 1 txE (.slice bk7 0 1 1) [([99,111,117,110,116,101,114,112,97,110,101,32,49]:bn)],cp bk5 [],cp bk5 (([])++Go.Lib.join ([([99,111,117,110,116,101,114,112,97,110,101,32,49]:bn)]) [32]++[10]),axA XA A1,cp bk5 ((([])++Go.Lib.join ([([99,111,117,110,116,101,114,112,97,110,101,32,49]:bn)]) [32]++[10])++axL ([114,111,119]:bn) A1),axA YA B1,cp bk5 (((([])++Go.Lib.join ([([99,111,117,110,116,101,114,112,97,110,101,32,49]:bn)]) [32]++[10])++axL ([114,111,119]:bn) A1)++axL ([99,111,108]:bn) B1),cp bk5 L]}) bm ((show _=([(66,.func (.func 45) [] [.ptr C7 0]),(0,.ptr SB 0),(4,.ptr bk5 0),(5,.ptr bk6 0)]:List (Nat×SV))from rfl).trans (show([(66,.func (.func 45) [] [.ptr C7 0]),(0,.ptr SB 0),(4,.ptr bk5 0),(5,.ptr bk6 0)]:List (Nat×SV))=_ from rfl)) rfl rfl (λ_ h=>by cases h) ?_;show den (fnC Tryz.prog Γ Tryz.f6 1 [dm9] (d4 Z0::l) (dz Z0 (qb Γ SB XA YA CE NA A1 B1 M N l))) _ _ _ _;refine bS (λ(C50:Nat)=>{n:=[C50]}) _ (λ_ _=>Pi Γ NA) λZ C50 qd50=>?_;exact bu (JS Γ SB XA YA CE NA A1 B1 M N hA hB hM hN hb bk5 bk6 bk7 C7 L dm9 C50 L gB) rfl rfl
theorem Pp(SB XA:Nat)(YA CE NA:Nat)(A1 B1:AX)(M:List (CK×CT))(N:List (bn×NT))(hA:AxOk A1)(hB:AxOk B1)(hM:StOk M)(hN:NtOk N)(hb:((ij A1 B1 M N).length:Int)<=800000)(hs:St Z0 (own SB (.cells [.ptr XA 0,.ptr YA 0,.ptr CE 0,.ptr NA 0] 54)::axA XA A1::axA YA B1::stA CE Γ M::tbA NA Γ N::l) h):RC Γ Z0 6 [.ptr SB 0] h (qb Γ SB XA YA CE NA A1 B1 M N l):=by
 refine bL Tryz.f6 Tryz.func6 [.ptr 0 0] [.blk 0 oc 54,.asr 0,.asr 1,.asr 2,.asr 3] ⟨0,0,0,0,5,4⟩ (va {n:=[SB,XA,YA,CE,NA],a:=[axA XA A1,axA YA B1,stA CE Γ M,tbA NA Γ N]}) (.new<|.new<|.new<|.swap [.blk 7 [.txt (.tl [99,111,117,110,116,101,114,112,97,110,101,32,49])] 9] [.asr 4] ⟨0,0,0,0,8,5⟩<|.swap [.blk 5 [.lit (.pointer none),.lit mt] 58] [.asr 5] ⟨0,0,0,0,8,6⟩<|.call 14 [.slice 7 0 1 1,.ptr 5 0] [.asr 4,.asr 5] (.tup []) [.asr 6] ⟨0,0,0,0,8,7⟩<|.call 18 [.txt (.tl [114,111,119]),.ptr 1 0,.ptr 6 0] [.blk 6 [.fn 14 [] [.ptr 5 0]] 66,.asr 0,.asr 6] (.tup []) [.blk 6 [.fn 14 [] [.ptr 5 0]] 66,.asr 7,.asr 8] ⟨0,0,0,0,8,9⟩<|.call 18 [.txt (.tl [99,111,108]),.ptr 2 0,.ptr 6 0] [.blk 6 [.fn 14 [] [.ptr 5 0]] 66,.asr 1,.asr 8] (.tup []) [.blk 6 [.fn 14 [] [.ptr 5 0]] 66,.asr 9,.asr 10] ⟨0,0,0,0,8,11⟩<|.call 21 [.ptr 3 0] [] (.fn 45 [] [.ptr 8 0]) [.blk 8 [.ptr 3 0] 34] ⟨0,0,0,0,9,11⟩<|.stop [0,1,0,1,1,1,1,1,1,1,1] IG [.blk 8 [.ptr 3 0] 34,.asr 2,.blk 6 [.fn 14 [] [.ptr 5 0]] 66,.asr 9,.asr 10,.asr 7,.blk 0 oc 54,.asr 3]) hs ?_;refine bA λbk5=>?_;refine bA λbk6=>?_;refine bA λbk7=>?_;refine dsU {a:=[lsA 9 1 txE (.slice bk7 0 1 1) [([99,111,117,110,116,101,114,112,97,110,101,32,49]:bn)]]} (λl h hs=>iU (enc:=txE) (L:=[([99,111,117,110,116,101,114,112,97,110,101,32,49]:bn)]) (λ_ _=>⟨rfl,rfl⟩) rfl rfl (by decide) (hs) (m:=l) (h:=h)) ?_;refine dsU {a:=[cp bk5 []]} (λl h hs=>vZ (hs) (l:=l) (h:=h)) ?_;refine dcU {a:=[cp bk5 (([])++Go.Lib.join ([([99,111,117,110,116,101,114,112,97,110,101,32,49]:bn)]) [32]++[10])]} (λl h hs=>(by have hr:=tW Γ (.slice bk7 0 1 1) bk5 ([([99,111,117,110,116,101,114,112,97,110,101,32,49]:bn)]) ([]) gB (Z0:=Z0) (l:=l) (h:=h) TP;first|exact hr|(simp only[RC,bN,bP]at hr;exact hr)|(simp only[RC,bN,bP,qD]at hr;exact hr))) λZ=>?_;refine dcU {a:=[axA XA A1,cp bk5 ((([])++Go.Lib.join ([([99,111,117,110,116,101,114,112,97,110,101,32,49]:bn)]) [32]++[10])++axL ([114,111,119]:bn) A1)]} (λ_ _=>Kx Γ ([114,111,119]:bn) XA bk6 bk5 A1 (([])++Go.Lib.join ([([99,111,117,110,116,101,114,112,97,110,101,32,49]:bn)]) [32]++[10]) gB gB gB) λZ=>?_;refine dcU {a:=[axA YA B1,cp bk5 (((([])++Go.Lib.join ([([99,111,117,110,116,101,114,112,97,110,101,32,49]:bn)]) [32]++[10])++axL ([114,111,119]:bn) A1)++axL ([99,111,108]:bn) B1)]} (λ_ _=>Kx Γ ([99,111,108]:bn) YA bk6 bk5 B1 ((([])++Go.Lib.join ([([99,111,117,110,116,101,114,112,97,110,101,32,49]:bn)]) [32]++[10])++axL ([114,111,119]:bn) A1) gB gB gB) λZ=>?_;refine bS (λ(C7:Nat)=>{n:=[C7]}) _ (λ_ _=>OD Γ CE) λZ C7 qd7=>?_;exact bu (Jj Γ SB XA YA CE NA A1 B1 M N hA hB hM hN hb bk5 bk6 bk7 C7 (((([])++Go.Lib.join ([([99,111,117,110,116,101,114,112,97,110,101,32,49]:bn)]) [32]++[10])++axL ([114,111,119]:bn) A1)++axL ([99,111,108]:bn) B1) gB) rfl rfl
abbrev Q3:List (Nat×XV):=[(0,vT 0),(3,.raw 0),(4,vI 0),(5,vI 1),(8,vI 2),(9,vI 3)]
theorem jg{P:Prop}(h:P:=by first|omega|(have w1:=hi.2.2.le;omega)|exact⟨by omega,by omega,Oq qd2 cd2 cd1⟩|exact⟨by omega,by omega,hi.2.2.ye bj bj (by assumption)⟩|exact⟨by omega,by omega,hi.2.2.no bj bj (by assumption)⟩|with_reducible exact(gN qd2 cd2).2.1|with_reducible exact(gN qd2 cd2).2.2.1|exact(gN qd2 cd2).2.2.2.1|exact(gN qd2 cd2).2.2.2.2.1|(rw[(gN qd2 cd2).2.2.2.2.2];omega)):P:=h
theorem jf{P:Prop}(h:P:=by first|rfl|(have w1:=hi.2.2.fin (by assumption);exfalso;omega)|(have w1:=hi.2.2.fin (by assumption);show(bV (decide (n2=lines)):SV)=_;rw[bd bj])|(exfalso;have w1:=gN qd2 cd2;omega)|(have w1:=gN qd2 cd2;show(bV (decide (tx3=text)):SV)=_;rw[bd (qd3.trans w1.2.2.2.2.2)])):P:=h
theorem Kr{r:RS}(w:RdI r):AxOk (axOf r.Is r.Ds)/\AxOk (axOf r.Js r.Es):=by
 have key:∀(I D:List IdL) (M:List (IdL×Bool)),SideI I D M->(I.length:Int)<=1000->AxOk (axOf I D):=λI D M s hl=>by
  have e:idsOf (axOf I D)=I:=by
   unfold axOf idsOf;rw[<-List.unzip_fst,List.unzip_zip (by rw[ao])]
  refine⟨by rw[e];exact s.n,?_,λy hy=>?_⟩
  .have:=congrArg List.length e;rw[ao]at this;omega
  .exact s.i _ (by rw[<-e];exact List.mem_map.2 ⟨y,hy,rfl⟩)
 exact⟨key _ _ _ w.r w.l.1,key _ _ _ w.c w.l.2.2.1⟩
theorem xH(w:bn)(I D:List IdL):axL w (axOf I D)=eB w I D:=by
 unfold axL axOf eB;rw[List.zip_map_right]
 induction I with
 |nil=>rfl
 |cons a l ih=>
  rw[List.zip_cons_cons,ax,List.flatMap_cons,List.flatMap_cons,ih];congr 1;unfold Hs;by_cases h:a∈D
  .simp[h]
  .simp[h]
theorem gN{text:bn}{n e:Int}{A B:AX}{M:List (CK×CT)}{N:List (bn×NT)}(q:ReadQ text n e A B M N)(h:e=0):n=0/\AxOk A/\AxOk B/\StOk M/\NtOk N/\ij A B M N=text:=by
 obtain⟨h1,r,w,ht,rfl,rfl,rfl,rfl⟩:=q.ok h;refine⟨h1,(Kr w).1,(Kr w).2,w.st,w.nt,?_⟩;rw[ht,ij,tx1,xH,xH,bodyR];simp
theorem yB{l:bn}{i:Int}(h0:0<=i)(h1:i<(l.length:Int)):cntL (l.take (i+1).toNat)=cntL (l.take i.toNat)+(if bAt l i=10 then 1 else 0):=by
 have e:=eh (L:=l) (i:=i) h0 h1;have h2:=dG (L:=l) h0 h1;rw[e,lI];congr 1;have hb:bAt l i=((lget l i).toNat:Int):=by unfold bAt;rw[h2];rfl
 rw[hb];unfold cntL;by_cases h:lget l i=10
 .rw[h];rfl
 .rw[bh (λhh=>h (UInt8.toNat_inj.1 (show(lget l i).toNat=(10:UInt8).toNat from(by omega:(lget l i).toNat=10)))),List.count_eq_zero.2 (by simpa using λe=>h e.symm)]
  try rfl
theorem KE(hs:St Z0 (l) h):RC Γ Z0 4 [] h λZq vq hq=>(True)/\vq=bV true/\St Zq (l) hq:=by
 exact lV (outs:=[⟨.ret,⟨.leaf,0,[]⟩,h,.lit (.bool true)⟩]) rfl λo ho=>by rw[List.mem_singleton.1 ho];exact⟨Z0,Sub.refl _,trivial,rfl,hs⟩
theorem nI{Γ:Glob}{Z h:Hp}{m:List Asrt}{A B:AX}{M:List (CK×CT)}{N:List (bn×NT)}{e:Int}{sh:SV}{t:TypeId}(hn:∀xo yo,binQ Tryz.prog .eql t xo yo (.lit (.pointer none)) (.lit (.pointer none))=some (bV true))(he:¬e=0)(s:St Z (shO sh e Γ A B M N::m) h):True/\∃fs:List Fact,∀xo yo,one (binQ Tryz.prog .eql t xo yo sh (.lit (.pointer none)))=some (bV true,fs):=by
 obtain⟨SB,s⟩:=eL.1 s;unfold yA at s;rw[bc he]at s;obtain⟨rfl,_⟩:=i1.1 s;exact⟨trivial,[],λxo yo=>by first|(rw[hn];done)|(rw[hn];rfl)⟩
theorem QW(sh:SV)(A1 B1:AX)(M:List (CK×CT))(N:List (bn×NT))(e:Int)(he:e=0)(hA:AxOk A1)(hB:AxOk B1)(hM:StOk M)(hN:NtOk N)(hb:((ij A1 B1 M N).length:Int)<=800000)(hs:St Z0 (shO (oneS sh) e Γ A1 B1 M N::l) h):RC Γ Z0 6 [(oneS sh)] h λZq vq hq=>∃tx:bn,(tx=ij A1 B1 M N)/\vq=.tuple [sV tx,iV 0]/\St Zq (l) hq:=by
 obtain⟨SB,XA,YA,CE,NA,h1,s⟩:=Ix he hs;rw[h1];exact Pp Γ SB XA YA CE NA A1 B1 M N hA hB hM hN hb s
theorem Lk{text:bn}{n e lines:Int}{A B:AX}{M:List (CK×CT)}{N:List (bn×NT)}(q:ReadQ text n e A B M N)(h:¬e=0)(hl:lines=cntL text+1):(e=13\/e=15\/e=6\/e=4\/e=5)/\1<=n/\n<=lines/\(e=15->n=1)/\(e=13->n=lines):=by
 rw[hl];exact q.no h
structure CntI(text:bn)(i lines:Int):Prop where
 c:lines=cntL (text.take i.toNat)+1
theorem NQ{text:bn}:CntI text 0 1:=⟨by simp[cntL]⟩
theorem Mm{text:bn}{i lines:Int}(w:CntI text i lines)(h0:0<=i)(h1:i<(text.length:Int))(h:bAt text i=10):CntI text (i+1) (lines+1):=⟨by rw[yB h0 h1,bi h,w.c]<;>omega⟩
theorem LM{text:bn}{i lines:Int}(w:CntI text i lines)(h0:0<=i)(h1:i<(text.length:Int))(h:¬bAt text i=10):CntI text (i+1) lines:=⟨by rw[yB h0 h1,bh h,w.c]<;>omega⟩
theorem CntI.end{text:bn}{i lines:Int}(w:CntI text i lines)(h:¬i<(text.length:Int)):lines=cntL text+1:=by rw[w.c,List.take_of_length_le bj]
theorem CntI.le{text:bn}{i lines:Int}(w:CntI text i lines):1<=lines/\lines<=(text.length:Int)+1:=by
 have h1:=BB (text.take i.toNat);have h2:=Fo (text.take i.toNat);have h3:=w.c;rw[aL]at h1;omega
structure LwI(text:bn)(n e:Int)(A B:AX)(M:List (CK×CT))(N:List (bn×NT))(i lines:Int):Prop where
 q:ReadQ text n e A B M N
 ne:¬e=0
 b:(text.length:Int)<=3000
 c:CntI text i lines
section
variable {text:bn}{n e i lines:Int}{A B:AX}{M:List (CK×CT)}{N:List (bn×NT)}
theorem LwI.ye(w:LwI text n e A B M N i lines)(h0:0<=i)(h1:i<(text.length:Int))(h:bAt text i=10):LwI text n e A B M N (i+1) (lines+1):=⟨w.q,w.ne,w.b,Mm w.c h0 h1 h⟩
theorem LwI.no(w:LwI text n e A B M N i lines)(h0:0<=i)(h1:i<(text.length:Int))(h:¬bAt text i=10):LwI text n e A B M N (i+1) lines:=⟨w.q,w.ne,w.b,LM w.c h0 h1 h⟩
theorem LwI.fin(w:LwI text n e A B M N i lines)(h:¬i<(text.length:Int)):(e=13\/e=15\/e=6\/e=4\/e=5)/\1<=n/\n<=lines/\(e=15->n=1)/\(e=13->n=lines):=Lk w.q w.ne (w.c.end h)
theorem LwI.le(w:LwI text n e A B M N i lines):1<=lines/\lines<=3001/\(text.length:Int)<=3000/\¬e=0:=by
 have h1:=w.c.le;have h2:=w.b;exact⟨by omega,by omega,h2,w.ne⟩
theorem Oq(q:ReadQ text n e A B M N)(h:¬e=0)(hb:¬3000<(text.length:Int)):LwI text n e A B M N 0 1:=⟨q,h,by omega,NQ⟩
end
abbrev KG(Γ:Glob)(text:bn):TG:=λl Zq vq hq=>(True)/\vq=bV true/\St Zq (l) hq
noncomputable abbrev OR(Γ:Glob)(text:bn)(Z0:Hp)(l:List Asrt):Cx:=fnC Tryz.prog Γ Tryz.f3 1 [] (d4 Z0::l) (dz Z0 (KG Γ text l))
theorem IE(text:bn)(sh2:SV)(n2 e2:Int)(A2 B2:AX)(M2:List (CK×CT))(N2:List (bn×NT)):∀(m:Nat) (Z:Hp) (lines ix:Int) (hi:0<=ix/\ix<=(text.length:Int)/\LwI text n2 e2 A2 B2 M2 N2 ix lines) (hm:((text.length:Int)-ix).toNat<m),den (OR Γ text Z0 l) (.stop [0,1,0,1,1,1,1,1] Q3 [.asr 0]) ⟨4,1,0,1,0,1⟩ (va {i:=[n2,e2,lines,ix],t:=[text],r:=[sh2],a:=[shO (oneS sh2) e2 Γ A2 B2 M2 N2]}) Z:=by
 intro m
 induction m with
 |zero=>intros;omega
 |succ m ih=>
  intro Z lines ix hi hm;refine cZ [0,1,0,1,1,1,1,1] Q3 [.asr 0] [] ⟨4,1,0,1,0,1⟩ (.fork (.lt (.v 3) (.len (.tv 0))) (.vc (.le (.z 0) (.v 3))<|.vc (.lt (.v 3) (.len (.tv 0)))<|.fork (.eq (.at (.tv 0) (.v 3)) (.z 10)) (.vc (xI (.add (.v 2) (.z 1)))<|.vc (xI (.add (.v 3) (.z 1)))<|.stop [0,1,0,1,1,1,1,1] [(0,vT 0),(3,.raw 0),(4,vI 0),(5,vI 1),(8,I (.add (.v 2) (.z 1))),(9,I (.add (.v 3) (.z 1)))] [.asr 0])<|.vc (xI (.add (.v 3) (.z 1)))<|.stop [0,1,0,1,1,1,1,1] [(0,vT 0),(3,.raw 0),(4,vI 0),(5,vI 1),(8,vI 2),(9,I (.add (.v 3) (.z 1)))] [.asr 0])<|.fork (.eq (.v 1) (.z 13)) (.row (.bin .eql 23 (.raw 0) (.lit (.pointer none))) [.asr 0] (TB) ⟨4,1,0,1,0,1⟩<|.fork (.le (.z 1) (.v 0)) (.fork (.le (.v 0) (.v 2)) (.fork (.eq (.v 1) (.z 15)) (.fork (.eq (.v 0) (.z 1)) (.ret (.bool (.eq (.v 0) (.v 2))) [])<|.ret (TA) [])<|.ret (.bool (.eq (.v 0) (.v 2))) [])<|.ret (TA) [])<|.ret (TA) [])<|.fork (.eq (.v 1) (.z 15)) (.row (.bin .eql 23 (.raw 0) (.lit (.pointer none))) [.asr 0] (TB) ⟨4,1,0,1,0,1⟩<|.fork (.le (.z 1) (.v 0)) (.fork (.le (.v 0) (.v 2)) (.fork (.eq (.v 0) (.z 1)) (.ret (TB) [])<|.ret (TA) [])<|.ret (TA) [])<|.ret (TA) [])<|.fork (.eq (.v 1) (.z 6)) (.row (.bin .eql 23 (.raw 0) (.lit (.pointer none))) [.asr 0] (TB) ⟨4,1,0,1,0,1⟩<|.fork (.le (.z 1) (.v 0)) (.fork (.le (.v 0) (.v 2)) (.ret (TB) [])<|.ret (TA) [])<|.ret (TA) [])<|.fork (.eq (.v 1) (.z 4)) (.row (.bin .eql 23 (.raw 0) (.lit (.pointer none))) [.asr 0] (TB) ⟨4,1,0,1,0,1⟩<|.fork (.le (.z 1) (.v 0)) (.fork (.le (.v 0) (.v 2)) (.ret (TB) [])<|.ret (TA) [])<|.ret (TA) [])<|.row (.bin .eql 23 (.raw 0) (.lit (.pointer none))) [.asr 0] (TB) ⟨4,1,0,1,0,1⟩<|.fork (.eq (.v 1) (.z 5)) (.fork (.le (.z 1) (.v 0)) (.fork (.le (.v 0) (.v 2)) (.ret (TB) [])<|.ret (TA) [])<|.ret (TA) [])<|.ret (TA) []) 100000 bm (λ_ h=>by cases h) ?_;refine bo (ix<(text.length:Int)) rfl (λcd1=>?_) λcd1=>?_
  .refine bE (show 0<=ix from jg) ?_;refine bE (show ix<(text.length:Int)from jg) ?_;refine bo ((bAt text ix)=10) rfl (λcd2=>?_) λcd2=>?_
   .refine bE (show I6 (lines+1)from jg) ?_;refine bE (show I6 (ix+1)from jg) ?_;exact bu (ih _ (lines+1) (ix+1) jg jg) rfl rfl
   .refine bE (show I6 (ix+1)from jg) ?_;exact bu (ih _ lines (ix+1) jg jg) rfl rfl
  .refine bo (e2=13) rfl (λcd2=>?_) λcd2=>?_
   .refine drT {} (λl h hs=>nI (m:=l) (h:=h) (λ_ _=>by kernel_rfl) jg hs) ?_;refine bo (1<=n2) rfl (λcd3=>?_) λcd3=>?_
    .refine bo (n2<=lines) rfl (λcd4=>?_) λcd4=>?_
     .refine bo (e2=15) rfl (λcd5=>?_) λcd5=>?_
      .refine bo (n2=1) rfl (λcd6=>?_) λcd6=>?_
       .exact an λh hs=>⟨TH,jf,hs⟩
       .exact an λh hs=>⟨TH,jf,hs⟩
      .exact an λh hs=>⟨TH,jf,hs⟩
     .exact an λh hs=>⟨TH,jf,hs⟩
    .exact an λh hs=>⟨TH,jf,hs⟩
   .refine bo (e2=15) rfl (λcd3=>?_) λcd3=>?_
    .refine drT {} (λl h hs=>nI (m:=l) (h:=h) (λ_ _=>by kernel_rfl) jg hs) ?_;refine bo (1<=n2) rfl (λcd4=>?_) λcd4=>?_
     .refine bo (n2<=lines) rfl (λcd5=>?_) λcd5=>?_
      .refine bo (n2=1) rfl (λcd6=>?_) λcd6=>?_
       .exact an λh hs=>⟨TH,jf,hs⟩
       .exact an λh hs=>⟨TH,jf,hs⟩
      .exact an λh hs=>⟨TH,jf,hs⟩
     .exact an λh hs=>⟨TH,jf,hs⟩
    .refine bo (e2=6) rfl (λcd4=>?_) λcd4=>?_
     .refine drT {} (λl h hs=>nI (m:=l) (h:=h) (λ_ _=>by kernel_rfl) jg hs) ?_;refine bo (1<=n2) rfl (λcd5=>?_) λcd5=>?_
      .refine bo (n2<=lines) rfl (λcd6=>?_) λcd6=>?_
       .exact an λh hs=>⟨TH,jf,hs⟩
       .exact an λh hs=>⟨TH,jf,hs⟩
      .exact an λh hs=>⟨TH,jf,hs⟩
     .refine bo (e2=4) rfl (λcd5=>?_) λcd5=>?_
      .refine drT {} (λl h hs=>nI (m:=l) (h:=h) (λ_ _=>by kernel_rfl) jg hs) ?_;refine bo (1<=n2) rfl (λcd6=>?_) λcd6=>?_
       .refine bo (n2<=lines) rfl (λcd7=>?_) λcd7=>?_
        .exact an λh hs=>⟨TH,jf,hs⟩
        .exact an λh hs=>⟨TH,jf,hs⟩
       .exact an λh hs=>⟨TH,jf,hs⟩
      .refine drT {} (λl h hs=>nI (m:=l) (h:=h) (λ_ _=>by kernel_rfl) jg hs) ?_;refine bo (e2=5) rfl (λcd6=>?_) λcd6=>?_
       .refine bo (1<=n2) rfl (λcd7=>?_) λcd7=>?_
        .refine bo (n2<=lines) rfl (λcd8=>?_) λcd8=>?_
         .exact an λh hs=>⟨TH,jf,hs⟩
         .exact an λh hs=>⟨TH,jf,hs⟩
        .exact an λh hs=>⟨TH,jf,hs⟩
       .exact an λh hs=>⟨TH,jf,hs⟩
theorem w136r(text:bn)(hs:St Z0 (l) h):RC Γ Z0 3 [sV text] h (KG Γ text l):=by
 refine bL Tryz.f3 Tryz.func3 [vT 0] [] ⟨0,1,0,0,0,0⟩ (va {t:=[text]}) (.call 4 [] [] (TB) [] ⟨0,1,0,0,0,0⟩<|.fork (.lt (.z 3000) (.len (.tv 0))) (.call 4 [] [] (TB) [] ⟨0,1,0,0,0,0⟩<|.ret (TB) [])<|.call 5 [vT 0] [] (.tup [.raw 0,vI 0,vI 1]) [.asr 0] ⟨2,1,0,1,0,1⟩<|.fork (.eq (.v 1) (.z 0)) (.call 6 [.raw 0] [.asr 0] (.tup [vT 1,Fd]) [] ⟨2,2,0,1,0,1⟩<|.fork (.eq (.v 0) (.z 0)) (.ret (.bool (.teq (.tv 1) (.tv 0))) [])<|.ret (TA) [])<|.stop [0,1,0,1,1,1,1,1] [(0,vT 0),(3,.raw 0),(4,vI 0),(5,vI 1),(8,I (.z 1)),(9,Fd)] [.asr 0]) hs ?_;refine dcU {} (λ_ _=>KE Γ) λZ=>?_;refine bo (3000<(text.length:Int)) rfl (λcd1=>?_) λcd1=>?_
 .refine dcU {} (λ_ _=>KE Γ) λZ=>?_;exact an λh hs=>⟨TH,jf,hs⟩
 .refine bS (α:=SV×Int×Int×AX×AX×(List (CK×CT))×(List (bn×NT))) (λ(⟨sh2,n2,e2,A2,B2,M2,N2⟩:SV×Int×Int×AX×AX×(List (CK×CT))×(List (bn×NT)))=>{i:=[n2,e2],r:=[sh2],a:=[shO (oneS sh2) e2 Γ A2 B2 M2 N2]}) (λ(⟨sh2,n2,e2,A2,B2,M2,N2⟩:SV×Int×Int×AX×AX×(List (CK×CT))×(List (bn×NT)))=>ReadQ text n2 e2 A2 B2 M2 N2) (λl h hs=>(Pu (h:=h) (l:=l) Γ text jg hs).mono λ_ ⟨Z1,z1,sh2,n2,e2,A2,B2,M2,N2,hq_,he_,hs_⟩=>⟨Z1,z1,⟨sh2,n2,e2,A2,B2,M2,N2⟩,hq_,he_,hs_⟩) λZ ⟨sh2,n2,e2,A2,B2,M2,N2⟩ qd2=>?_;refine bo (e2=0) rfl (λcd2=>?_) λcd2=>?_
  .refine bS (λ(tx3:bn)=>{t:=[tx3]}) _ (λ_ _=>QW Γ sh2 A2 B2 M2 N2 e2 jg jg jg jg jg jg) λZ tx3 qd3=>?_;refine bo (n2=0) rfl (λcd3=>?_) λcd3=>?_
   .exact an λh hs=>⟨TH,jf,hs⟩
   .exact an λh hs=>⟨TH,jf,hs⟩
  .exact bu (IE Γ text sh2 n2 e2 A2 B2 M2 N2 _ _ 1 0 jg (aq _)) rfl rfl
end Go.Proofs.YtbhokokpplmigaaGreatDoor.Sx
