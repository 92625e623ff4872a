/-
  A part of the proof of FileReads; no condition.
-/
import Derived.Test.YtbhokokpplmigaaGreatDoorSxGF
import Derived.Test.YtbhokokpplmigaaGreatDoorFaGE
set_option linter.all false
namespace Go.Proofs.YtbhokokpplmigaaGreatDoor.Sx
open Go Go.Proofs.YtbhokokpplmigaaGreatDoor.Ev
set_option maxRecDepth 20000
set_option maxHeartbeats 4000000
variable (Γ:Glob)[Mute Γ]{Z0 h:Hp}{l:List Asrt}
abbrev zu0:List MI:=[.asr 10,.asr 7,.asr 8,.asr 5,.asr 6,.blk 2 [.raw 0,.raw 1,.raw 2,.raw 3,.raw 4] 118,.asr 4,.blk 1 [.ptr 2 0] 51]
abbrev zu2:List MI:=[.blk 2 [.raw 0,.raw 1,.raw 2,.raw 3,.raw 4] 118,.asr 5,.asr 7,.asr 4]
abbrev zu3:List (Nat×XV):=[(0,.yield 0),(4,.raw 6),(19,.raw 5),(20,vI 0),(21,vI 1)]
abbrev zu4:List XV:=[.raw 0,.raw 1,.raw 2,.raw 3,.raw 4]
theorem Ku0{P:Prop}(h:P:=by first|omega|(and_intros<;>intros<;>and_intros<;>first|omega|assumption|exact lT _|exact lC _|exact V1)):P:=h
theorem Ku4{P:Prop}(h:P:=by first|rfl|(show(.lit mt:SV)=_;simp_all)):P:=h
theorem Ku5{P:Prop}(h:P:=by first|rfl|(show((oneS v3):SV)=_;simp_all)):P:=h
abbrev R5(Γ:Glob)(v:SV)(L:List IdL):TG:=λl Zq vq hq=>∃w:SV,(True)/\vq=(oneS w)/\St Zq (lsA 43 2 idE (oneS v) L::lsA 43 2 idE (oneS w) L::l) hq
theorem Rz(v:SV)(L:List IdL)(h1:(L.length:Int)<=1000000)(hs:St Z0 (lsA 43 2 idE (oneS v) L::l) h):RC Γ Z0 42 [(oneS v)] h (R5 Γ v L l):=by
 refine bL Tryz.f42 Tryz.func42 [.raw 0] [.asr 0] ⟨0,0,0,1,0,1⟩ (va {r:=[v],a:=[lsA 43 2 idE (oneS v) L]}) (.row (.bin .eql 38 (.raw 0) (.lit mt)) [.asr 0] (vB 0) ⟨0,0,1,1,0,1⟩<|.fork (.bv 0) (.swap [] [.asr 1] ⟨0,0,1,1,0,2⟩<|.ret (.lit mt) [.asr 0,.asr 1])<|.new<|.swap [.blk 0 [] 43] [.asr 1] ⟨0,0,1,1,1,2⟩<|.eff (.app [38,38] (.slice 0 0 0 0) (.raw 0)) [.asr 1,.asr 0] (.raw 1) [.asr 2,.asr 3] ⟨0,0,1,2,1,4⟩<|.ret (.raw 1) [.asr 3,.asr 2]) hs ?_;refine dD {b:=[(fS (oneS v))]} (fS (oneS v)=true->L=[]) (λl h hs=>wW (m:=l) (h:=h) rfl (λ_ _=>by kernel_rfl) hs) λkn0=>?_;refine bo ((fS (oneS v))=true) rfl (λcd1=>?_) λcd1=>?_
 .refine dsU {a:=[lsA 43 2 idE (oneS (.lit mt)) []]} (λl h hs=>kS (hs) (m:=l) (h:=h)) ?_;exact an λh hs=>⟨(.lit mt),TH,Ku4,TI⟩
 .refine bA λbk0=>?_;refine dsU {a:=[lsA 43 2 idE (.slice bk0 0 0 0) []]} (λl h hs=>iU (enc:=idE) (L:=[]) (λ_ _=>⟨rfl,rfl⟩) rfl rfl (by decide) (hs) (m:=l) (h:=h)) ?_;refine dJ (λ(v3:SV)=>{r:=[v3],a:=[lsA 43 2 idE (oneS v3) L,lsA 43 2 idE (oneS v) L]}) (λ_=>True) (λl h hs=>H3 (m:=l) (h:=h) rfl jV (by decide) hs TJ TJ) λv3 _=>?_;exact an λh hs=>⟨v3,TH,Ku5,TI⟩
abbrev R9(Γ:Glob)(v:SV)(L:List Bool):TG:=λl Zq vq hq=>∃w:SV,(True)/\vq=(oneS w)/\St Zq (lsA 4 1 boE (oneS v) L::lsA 4 1 boE (oneS w) L::l) hq
theorem SU(v:SV)(L:List Bool)(h1:(L.length:Int)<=1000000)(hs:St Z0 (lsA 4 1 boE (oneS v) L::l) h):RC Γ Z0 43 [(oneS v)] h (R9 Γ v L l):=by
 refine bL Tryz.f43 Tryz.func43 [.raw 0] [.asr 0] ⟨0,0,0,1,0,1⟩ (va {r:=[v],a:=[lsA 4 1 boE (oneS v) L]}) (.row (.bin .eql 114 (.raw 0) (.lit mt)) [.asr 0] (vB 0) ⟨0,0,1,1,0,1⟩<|.fork (.bv 0) (.swap [] [.asr 1] ⟨0,0,1,1,0,2⟩<|.ret (.lit mt) [.asr 0,.asr 1])<|.new<|.swap [.blk 0 [] 4] [.asr 1] ⟨0,0,1,1,1,2⟩<|.eff (.app [114,114] (.slice 0 0 0 0) (.raw 0)) [.asr 1,.asr 0] (.raw 1) [.asr 2,.asr 3] ⟨0,0,1,2,1,4⟩<|.ret (.raw 1) [.asr 3,.asr 2]) hs ?_;refine dD {b:=[(fS (oneS v))]} (fS (oneS v)=true->L=[]) (λl h hs=>wW (m:=l) (h:=h) rfl (λ_ _=>by kernel_rfl) hs) λkn0=>?_;refine bo ((fS (oneS v))=true) rfl (λcd1=>?_) λcd1=>?_
 .refine dsU {a:=[lsA 4 1 boE (oneS (.lit mt)) []]} (λl h hs=>kS (hs) (m:=l) (h:=h)) ?_;exact an λh hs=>⟨(.lit mt),TH,Ku4,TI⟩
 .refine bA λbk0=>?_;refine dsU {a:=[lsA 4 1 boE (.slice bk0 0 0 0) []]} (λl h hs=>iU (enc:=boE) (L:=[]) (λ_ _=>⟨rfl,rfl⟩) rfl rfl (by decide) (hs) (m:=l) (h:=h)) ?_;refine dJ (λ(v3:SV)=>{r:=[v3],a:=[lsA 4 1 boE (oneS v3) L,lsA 4 1 boE (oneS v) L]}) (λ_=>True) (λl h hs=>H3 (m:=l) (h:=h) rfl y8 (by decide) hs TJ TJ) λv3 _=>?_;exact an λh hs=>⟨v3,TH,Ku5,TI⟩
theorem NS(C P:Nat)(A:AX)(h1:(idsOf A).Nodup/\(A.length:Int)<=1000)(hL:((idsOf A).length:Int)=A.length)(hM:((gh A).length:Int)=A.length){Z0:Hp}{B:Nat}{J0:Asrt}{J:Nat->Asrt}{Q:Asrt}(h0:∀Z l h,St Z ([]++J0::l) h->St Z (J 0::l) h)(hr:my Tryz.prog Γ B (A.length) (λ(k:Nat) (_:SV)=>[.agg [iV ((lget (idsOf A) (k:Int)).1),iV ((lget (idsOf A) (k:Int)).2)],bV (lget (gh A) (k:Int))]) (λ(k:Nat) (_:SV)=>[]) J Q)(x0 y0:SV)(s0 a0 b0:SV)(q0:Bool)(w2 w3:SV){l:List Asrt}:∀(m:Nat) (Z:Hp) (i:Int) (hi:0<=i/\i<=(A.length:Int)) (hm:((A.length:Int)-i).toNat<m),den (fnC Tryz.prog Γ Tryz.f41 2 [] (d4 Z0::l) (dz Z0 (λZ _ h=>St Z ([own C (.cells [.ptr P 0] 51),axA P A]++J (A.length)::l) h\/St Z ([own C (.cells [.ptr P 0] 51),axA P A]++Q::l) h))) (.stop [0,1,1,1] zu3 zu0) ⟨2,0,0,7,3,11⟩ (va {i:=[((idsOf A).length:Int),i],r:=[x0,y0,s0,a0,b0,w2,w3],n:=[B,C,P],a:=[axA P A,J0,lsA 43 2 idE (oneS x0) (idsOf A),lsA 4 1 boE (oneS y0) (gh A),yA q0 (yQ A (oneS s0) (oneS a0) (oneS b0)) (uy (oneS s0) (oneS a0) (oneS b0)),lsA 43 2 idE (oneS x0) (idsOf A),lsA 43 2 idE (oneS w2) (idsOf A),lsA 4 1 boE (oneS y0) (gh A),lsA 4 1 boE (oneS w3) (gh A),jz J 0,jz J i]}) Z:=by
 intro m
 induction m with
 |zero=>intros;omega
 |succ m ih=>
  intro Z i hi hm;refine cZ [0,1,1,1] zu3 zu0 [] ⟨2,0,0,7,3,11⟩ (.fork (.lt (.v 1) (.v 0)) (.row (.idxA 38 (.raw 5) (vI 1)) [.asr 6] (.raw 7) ⟨2,0,0,8,3,11⟩<|.row (.load 43 (.raw 7)) [.asr 6] (.agg [vI 2,vI 3]) ⟨4,0,0,8,3,11⟩<|.new<|.row (.idxA 114 (.raw 6) (vI 1)) [.asr 8] (.raw 8) ⟨4,0,0,9,4,11⟩<|.row (.load 4 (.raw 8)) [.asr 8] (vB 0) ⟨4,0,1,9,4,11⟩<|.round 0 [.agg [vI 2,vI 3],vB 0] [.asr 10] (vB 1) [.asr 11] ⟨4,0,2,9,4,12⟩<|.fork (.bv 1) (.swap [.asr 11] [.asr 12] ⟨4,0,2,9,4,13⟩<|.vc (xI (.add (.v 1) (.z 1)))<|.stop [0,1,1,1] [(0,.yield 0),(4,.raw 6),(19,.raw 5),(20,vI 0),(21,I (.add (.v 1) (.z 1)))] [.asr 12,.asr 7,.asr 8,.asr 5,.asr 6,.blk 2 zu4 118,.asr 4,.blk 1 [.ptr 2 0] 51])<|.swap [.asr 11] [.asr 12] ⟨4,0,2,9,4,13⟩<|.swap zu2 [.asr 13] ⟨4,0,2,9,4,14⟩<|.ret (.tup []) [.blk 1 [.ptr 2 0] 51,.asr 13,.asr 12])<|.swap zu2 [.asr 11] ⟨2,0,0,7,3,12⟩<|.ret (.tup []) [.blk 1 [.ptr 2 0] 51,.asr 11,.asr 10]) 100000 bm (λ_ h=>by cases h) ?_;refine bo (i<((idsOf A).length:Int)) rfl (λcd1=>?_) λcd1=>?_
  .refine drT {r:=[(elP (oneS w2) (Int.toNat i*2))]} (λl h hs=>ga (m:=l) (h:=h) (i:=i) rfl rfl hs Ku0 Ku0) ?_;refine drT {i:=[(((lget (idsOf A) i)).1),(((lget (idsOf A) i)).2)]} (λl h hs=>ky (m:=l) (h:=h) (i:=i) rfl rfl hs Ku0 Ku0) ?_;refine bA λbk3=>?_;refine drT {r:=[(elP (oneS w3) (Int.toNat i*1))]} (λl h hs=>ga (m:=l) (h:=h) (i:=i) rfl rfl hs Ku0 Ku0) ?_;refine drT {b:=[(lget (gh A) i)]} (λl h hs=>iO (m:=l) (h:=h) (i:=i) rfl rfl hs Ku0 Ku0 rfl) ?_;refine pQ (λ(v100:Bool)=>{b:=[v100],a:=[yA v100 (jz J (i+1)) Q]}) (λ_=>True) (λl h hs=>lG (rv:=(.lit .nilIface)) hr (x:=i) Ku0 Ku0 (by have e0:=Int.toNat_of_nonneg (show(0:Int)<=i from Ku0);first|(simp only[e0];done)|(simp only[e0];rfl)|(simp only[e0];first|omega|(and_intros<;>intros<;>and_intros<;>first|omega|assumption|exact lT _|exact lC _|exact V1))) (by first|rfl|(simp only[Int.toNat_of_nonneg (show(0:Int)<=i from by first|omega|(and_intros<;>intros<;>and_intros<;>first|omega|assumption|exact lT _|exact lC _|exact V1))];done)|(simp only[Int.toNat_of_nonneg (show(0:Int)<=i from by first|omega|(and_intros<;>intros<;>and_intros<;>first|omega|assumption|exact lT _|exact lC _|exact V1))];first|omega|(and_intros<;>intros<;>and_intros<;>first|omega|assumption|exact lT _|exact lC _|exact V1))) hs) λZ v100 _=>?_;refine bo (v100=true) rfl (λcd2=>?_) λcd2=>?_
   .refine dsU {a:=[jz J (i+1)]} (λl h hs=>EA cd2 (hs) (l:=l) (h:=h)) ?_;refine bE (show I6 (i+1)from Ku0) ?_;exact bu (ih _ (i+1) Ku0 Ku0) rfl rfl
   .refine dsU {a:=[Q]} (λl h hs=>C9 cd2 (hs) (l:=l) (h:=h)) ?_;refine dsU {a:=[axA P A]} (λl h hs=>qU (hs) (l:=l) (h:=h)) ?_;exact an λh hs=>.inr hs
  .refine dsU {a:=[axA P A]} (λl h hs=>qU (hs) (l:=l) (h:=h)) ?_;exact an λh hs=>.inl (wz (la:=[own C (.cells [.ptr P 0] 51),axA P A]) Ku0 hs)
theorem SA(C P:Nat)(A:AX)(h1:(idsOf A).Nodup/\(A.length:Int)<=1000)(hL:((idsOf A).length:Int)=A.length)(hM:((gh A).length:Int)=A.length):zO Tryz.prog Γ 41 [] [.ptr C 0] (A.length) (λ(k:Nat) (_:SV)=>[.agg [iV ((lget (idsOf A) (k:Int)).1),iV ((lget (idsOf A) (k:Int)).2)],bV (lget (gh A) (k:Int))]) (λ(k:Nat) (_:SV)=>[]) [own C (.cells [.ptr P 0] 51),axA P A] []:=by
 intro Z B J0 J Q l h h0 hr hs;refine rZ (Q:=λZ _ h=>St Z ([own C (.cells [.ptr P 0] 51),axA P A]++J (A.length)::l) h\/St Z ([own C (.cells [.ptr P 0] 51),axA P A]++Q::l) h) Tryz.f41 Tryz.func41 bm [.yield 0,.ptr 1 0] [.blk 1 [.ptr 2 0] 51,.asr 0,.asr 1] ⟨0,0,0,0,3,2⟩ (va {n:=[B,C,P],a:=[axA P A,J0]}) (.swap [.asr 0] [.blk 2 zu4 118,.asr 2,.asr 3,.asr 4] ⟨0,0,0,5,3,5⟩<|.call 42 [.raw 0] [.asr 2] (.raw 5) [.asr 5,.asr 6] ⟨0,0,0,6,3,7⟩<|.call 43 [.raw 1] [.asr 3] (.raw 6) [.asr 7,.asr 8] ⟨0,0,0,7,3,9⟩<|.row (.len 38 (.raw 5)) [.asr 6] (vI 0) ⟨1,0,0,7,3,9⟩<|.swap [.asr 1] [.asr 9] ⟨1,0,0,7,3,10⟩<|.stop [0,1,1,1] [(0,.yield 0),(4,.raw 6),(19,.raw 5),(20,vI 0),(21,Fd)] [.asr 9,.asr 7,.asr 8,.asr 5,.asr 6,.blk 2 zu4 118,.asr 4,.blk 1 [.ptr 2 0] 51]) 100000 bm hs rfl ?_;refine bQ (α:=SV×SV×SV×SV×SV×Bool) (λ(⟨x0,y0,s0,a0,b0,q0⟩:SV×SV×SV×SV×SV×Bool)=>{r:=[x0,y0,s0,a0,b0],a:=[lsA 43 2 idE (oneS x0) (idsOf A),lsA 4 1 boE (oneS y0) (gh A),yA q0 (yQ A (oneS s0) (oneS a0) (oneS b0)) (uy (oneS s0) (oneS a0) (oneS b0))]}) (λ(⟨x0,y0,s0,a0,b0,q0⟩:SV×SV×SV×SV×SV×Bool)=>True) (λl h hs=>let⟨x0,y0,s0,a0,b0,q0,hq_,hs_⟩:=Iq (hs) (l:=l) (h:=h);⟨⟨x0,y0,s0,a0,b0,q0⟩,hq_,hs_⟩) λ⟨x0,y0,s0,a0,b0,q0⟩ qs1=>?_;refine bS (λ(w2:SV)=>{r:=[w2],a:=[lsA 43 2 idE (oneS x0) (idsOf A),lsA 43 2 idE (oneS w2) (idsOf A)]}) _ (λ_ _=>Rz Γ x0 (idsOf A) Ku0) λZ w2 qd2=>?_;refine bS (λ(w3:SV)=>{r:=[w3],a:=[lsA 4 1 boE (oneS y0) (gh A),lsA 4 1 boE (oneS w3) (gh A)]}) _ (λ_ _=>SU Γ y0 (gh A) Ku0) λZ w3 qd3=>?_;refine drT {i:=[((idsOf A).length:Int)]} (λl h hs=>eD (m:=l) (h:=h) rfl (λ_=>rfl) hs) ?_;refine dsU {a:=[jz J 0]} (λl h hs=>h0 _ _ _ hs) ?_;exact bu (NS Γ C P A h1 hL hM h0 hr x0 y0 s0 a0 b0 q0 w2 w3 _ _ 0 Ku0 (aq _)) rfl rfl
abbrev Sr(Γ:Glob)(P:Nat):TG:=λl Zq vq hq=>∃C:Nat,(True)/\vq=.func (.func 41) [] [.ptr C 0]/\St Zq (own C (.cells [.ptr P 0] 51)::l) hq
theorem Tb(P:Nat)(hs:St Z0 (l) h):RC Γ Z0 19 [.ptr P 0] h (Sr Γ P l):=by
 refine bL Tryz.f19 Tryz.func19 [.ptr 0 0] [] ⟨0,0,0,0,1,0⟩ (va {n:=[P]}) (.new<|.ret (.fn 41 [] [.ptr 1 0]) [.blk 1 [.ptr 0 0] 51]) hs ?_;refine bA λbk1=>?_;exact an λh hs=>⟨bk1,TH,rfl,hs⟩
abbrev zv0:List MI:=[.asr 6,.asr 5,.asr 4,.blk 0 [.raw 1,.raw 2,.lit (.map none),.lit mt,.lit mt] 118,.asr 0]
abbrev zv1:List MI:=[.asr 0,.blk 0 [.raw 1,.raw 2,.lit (.map none),.lit mt,.lit mt] 118,.asr 4,.asr 5]
abbrev zv2:List MI:=[.blk 0 [.raw 0,.raw 1,.lit (.map none),.lit mt,.lit mt] 118,.asr 0,.asr 1]
abbrev zv3:List MI:=[.blk 0 [.raw 2,.raw 3,.lit (.map none),.lit mt,.lit mt] 118,.asr 2,.asr 3]
abbrev zv4:List MI:=[.blk 0 [.raw 0,.raw 1,.lit (.map none),.lit mt,.lit mt] 118]
abbrev zv5:List (Nat×XV):=[(3,.ptr 0 0),(4,.map 1),(10,.raw 0),(11,vI 0),(12,I (.add (.v 1) (.z 1)))]
abbrev zv6:List XV:=[.raw 6,.raw 7,.lit (.map none),.lit mt,.lit mt]
abbrev zv7:List (Nat×XV):=[(3,.ptr 0 0),(4,.map 1),(10,.raw 0),(11,vI 0),(12,vI 1)]
abbrev zv8:List (Nat×XV):=[(0,.raw 0),(3,.ptr 0 0),(7,vI 2),(8,vI 3)]
abbrev zv9:List XV:=[.ptr 0 0,.agg [vI 0,vI 1],TA]
abbrev LS:List MI:=[.blk 0 [vI 0,vI 1] 43,.asr 1]
abbrev MN:List XV:=[.ptr 0 0,.agg [vI 0,vI 1]]
theorem Kv0{P:Prop}(h:P:=by first|omega|(and_intros<;>intros<;>and_intros<;>first|omega|assumption|exact Pw|exact Hr hi.2.2.2.2 bj|(exfalso;have:=Ez hi.2.2.2.2 bj h1.1 h1.2.1;simp_all;done)|(simp only[ac,au,aw];omega)|exact V1)):P:=h
theorem Kv2{P:Prop}(h:P:=by first|omega|omega|(and_intros<;>intros<;>and_intros<;>first|omega|assumption|exact R6|exact Iu hi.2.2 bj bj (by simp_all)|exact LY bj (by simp_all) (by simp_all)|exact Kk hi.2.2 bj|exact V1)):P:=h
theorem Kv5{P:Prop}(h:P:=by first|exact Nn (ix:=ix0) qd0.2.2 bj hY|exact JI (ix:=ix0) qd0.2.2 bj qd0.2.1 hn hY|exact E5 (ix:=ix0) qd0.2.2 bj qd0.2.1 hn hY cd2):P:=h
theorem Kv6{P:Prop}(h:P:=by first|exact Fp hi.2.2.2.2 bj bj bj|(exfalso;omega)):P:=h
structure IxI(L:List IdL)(v:IdL)(i:Int):Prop where
 y:0<=i->lget L i=v
 n:i<0->v∉L
structure IxN(L:List IdL)(v:IdL)(i:Int):Prop where
 n:v∉L.take i.toNat
theorem R6{L:List IdL}{v:IdL}:IxN L v 0:=⟨by simp⟩
theorem Iu{L:List IdL}{v:IdL}{i:Int}(w:IxN L v i)(h0:0<=i)(h1:i<(L.length:Int))(hv:¬(v.1=(lget L i).1/\v.2=(lget L i).2)):IxN L v (i+1):=by
 refine⟨?_⟩;rw[eh h0 h1];intro h;rcases List.mem_append.1 h with h|h
 .exact w.n h
 .rw[List.mem_singleton.1 h]at hv;exact hv ⟨rfl,rfl⟩
theorem LY{L:List IdL}{v:IdL}{i:Int}(h0:0<=i)(h1:v.1=(lget L i).1)(h2:v.2=(lget L i).2):IxI L v i:=⟨λ_=>Prod.ext h1.symm h2.symm,λh=>by omega⟩
theorem Kk{L:List IdL}{v:IdL}{i:Int}(w:IxN L v i)(h:¬i<(L.length:Int)):IxI L v (-1):=⟨λh=>by omega,λ_=>by have:=w.n;rwa [List.take_of_length_le bj]at this⟩
abbrev OO(Γ:Glob)(v:SV)(xa xn:Int)(L:List IdL):TG:=λl Zq vq hq=>∃ix:Int,(-1<=ix/\ix<(L.length:Int)/\IxI L (xa,xn) ix)/\vq=iV ix/\St Zq (lsA 43 2 idE (oneS v) L::l) hq
noncomputable abbrev Tm(Γ:Glob)(v:SV)(xa xn:Int)(L:List IdL)(Z0:Hp)(l:List Asrt):Cx:=fnC Tryz.prog Γ Tryz.f168 2 [] (d4 Z0::l) (dz Z0 (OO Γ v xa xn L l))
theorem Mv(v:SV)(xa xn:Int)(L:List IdL)(h1:(L.length:Int)<=1000)(bk0:Nat):∀(m:Nat) (Z:Hp) (i:Int) (hi:0<=i/\i<=(L.length:Int)/\IxN L (xa,xn) i) (hm:((L.length:Int)-i).toNat<m),den (Tm Γ v xa xn L Z0 l) (.stop [0,1,0,1] zv8 LS) ⟨4,0,0,1,1,2⟩ (va {i:=[xa,xn,(L.length:Int),i],r:=[v],n:=[bk0],a:=[lsA 43 2 idE (oneS v) L,lsA 43 2 idE (oneS v) L]}) Z:=by
 intro m
 induction m with
 |zero=>intros;omega
 |succ m ih=>
  intro Z i hi hm;refine cZ [0,1,0,1] zv8 LS [] ⟨4,0,0,1,1,2⟩ (.fork (.lt (.v 3) (.v 2)) (.row (.idxA 38 (.raw 0) (vI 3)) [.asr 1] (.raw 1) ⟨4,0,0,2,1,2⟩<|.row (.load 43 (.raw 1)) [.asr 1] (.agg [vI 4,vI 5]) ⟨6,0,0,2,1,2⟩<|.fork (.and (.eq (.v 0) (.v 4)) (.eq (.v 1) (.v 5))) (.ret (vI 3) [.asr 1])<|.vc (xI (.add (.v 3) (.z 1)))<|.stop [0,1,0,1] [(0,.raw 0),(3,.ptr 0 0),(7,vI 2),(8,I (.add (.v 3) (.z 1)))] LS)<|.ret (I (.z (-1))) [.asr 1]) 100000 bm (λ_ h=>by cases h) ?_;refine bo (i<(L.length:Int)) rfl (λcd1=>?_) λcd1=>?_
  .refine drT {r:=[(elP (oneS v) (Int.toNat i*2))]} (λl h hs=>ga (m:=l) (h:=h) (i:=i) rfl rfl hs Kv2 Kv2) ?_;refine drT {i:=[(((lget L i)).1),(((lget L i)).2)]} (λl h hs=>ky (m:=l) (h:=h) (i:=i) rfl rfl hs Kv2 Kv2) ?_;refine bo ((xa=(((lget L i)).1))/\(xn=(((lget L i)).2))) rfl (λcd2=>?_) λcd2=>?_
   .exact an λh hs=>⟨i,Kv2,rfl,hs⟩
   .refine bE (show I6 (i+1)from Kv2) ?_;exact bu (ih _ (i+1) Kv2 Kv2) rfl rfl
  .exact an λh hs=>⟨(-1),Kv2,rfl,hs⟩
theorem Tf(v:SV)(xa xn:Int)(L:List IdL)(h1:(L.length:Int)<=1000)(hs:St Z0 (lsA 43 2 idE (oneS v) L::l) h):RC Γ Z0 168 [(oneS v),.agg [iV xa,iV xn]] h (OO Γ v xa xn L l):=by
 refine bL Tryz.f168 Tryz.func168 [.raw 0,.agg [vI 0,vI 1]] [.asr 0] ⟨2,0,0,1,0,1⟩ (va {i:=[xa,xn],r:=[v],a:=[lsA 43 2 idE (oneS v) L]}) (.new<|.row (.len 38 (.raw 0)) [.asr 0] (vI 2) ⟨3,0,0,1,1,1⟩<|.stop [0,1,0,1] [(0,.raw 0),(3,.ptr 0 0),(7,vI 2),(8,Fd)] [.blk 0 [vI 0,vI 1] 43,.asr 0]) hs ?_;refine bA λbk0=>?_;refine drT {i:=[(L.length:Int)]} (λl h hs=>eD (m:=l) (h:=h) rfl (λ_=>rfl) hs) ?_;exact bu (Mv Γ v xa xn L h1 bk0 _ _ 0 Kv2 (aq _)) rfl rfl
theorem Fp{L:List IdL}{i:Int}{X:List IdL}{Y:List Bool}{C:List (IdL×Bool)}(w:NewI L i X Y C)(h:¬i<(L.length:Int))(h0:(Y.length:Int)=i)(h1:i<=(L.length:Int)):X=L/\Y=L.map λ_=>true:=by
 have e:X=L:=by rw[w.c,List.take_of_length_le bj]
 exact⟨e,by rw[w.e,e]⟩
structure DelI(X:List IdL)(Y:List Bool)(v:IdL)(Y2:List Bool):Prop where
 e:Y2=List.zipWith (λx y=>y&& !decide (x=v)) X Y
 l:(Y2.length:Int)=X.length
theorem Ba{X:List IdL}{Y Y2:List Bool}{v:IdL}(hl:(Y.length:Int)=X.length)(h2:(Y2.length:Int)=X.length)(h:∀n (h:n<X.length) (h1:n<Y.length) (h2:n<Y2.length),Y2[n]=(Y[n]&& !decide (X[n]=v))):DelI X Y v Y2:=by
 refine⟨List.ext_getElem (by rw[List.length_zipWith];omega) λn a b=>?_,h2⟩;rw[List.getElem_zipWith];exact h n bj bj a
section
variable {X:List IdL}{Y:List Bool}{v:IdL}{ix:Int}
theorem Nn(w:IxI X v ix)(h:ix<0)(hl:(Y.length:Int)=X.length):DelI X Y v Y:=by
 refine Ba hl hl λn h1 h2 h3=>?_;have hx:X[n]≠v:=λe=>w.n h (e▸List.getElem_mem h1);simp[hx]
theorem zA(w:IxI X v ix)(h:¬ix<0)(hi:ix<(X.length:Int))(hn:X.Nodup){n:Nat}(h1:n<X.length):X[n]=v↔n=ix.toNat:=by
 have e:=w.y bj;have e2:=dG (L:=X) (i:=ix) bj hi;rw[e]at e2;obtain⟨hl,e3⟩:=List.getElem?_eq_some_iff.1 e2;constructor
 .intro e4;rw[<-e3]at e4;have hp:=List.pairwise_iff_getElem.1 hn;rcases Nat.lt_trichotomy n ix.toNat with h5|h5|h5
  .exact absurd e4 (hp n ix.toNat h1 hl h5)
  .exact h5
  .exact absurd e4.symm (hp ix.toNat n hl h1 h5)
 .rintro rfl;exact e3
theorem JI(w:IxI X v ix)(h:¬ix<0)(hi:ix<(X.length:Int))(hn:X.Nodup)(hl:(Y.length:Int)=X.length):DelI X Y v (Ak Y ix false):=by
 refine Ba hl (by unfold Ak;rw[List.length_set];exact hl) λn h1 h2 h3=>?_;have h4:n<(Y.set ix.toNat false).length:=h3;show(Y.set ix.toNat false)[n]'h4=_;rw[List.getElem_set];by_cases e:ix.toNat=n
 .rw[bi e,bd ((zA w h hi hn h1).2 e.symm)];simp
 .rw[bh e,bc λe2=>e ((zA w h hi hn h1).1 e2).symm];simp
theorem E5(w:IxI X v ix)(h:¬ix<0)(hi:ix<(X.length:Int))(hn:X.Nodup)(hl:(Y.length:Int)=X.length)(hy:¬lget Y ix=true):DelI X Y v Y:=by
 refine Ba hl hl λn h1 h2 h3=>?_;by_cases e:X[n]=v
 .have e1:=(zA w h hi hn h1).1 e;have e2:=dG (L:=Y) (i:=ix) bj bj;rw[<-e1,aB h2]at e2;have e3:Y[n]=lget Y ix:=ab e2;have e4:lget Y ix=false:=by simpa using hy
  rw[e3,e4];rfl
 .simp[e]
end
abbrev Q1(Γ:Glob)(v:SV)(L:List IdL):TG:=λl Zq vq hq=>∃P:Nat,∃x:SV,∃y:SV,∃X:List IdL,∃Y:List Bool,(X=L/\Y=L.map λ_=>true)/\vq=.ptr P 0/\St Zq (lsA 43 2 idE (oneS v) L::own P (.cells [(oneS x),(oneS y),.lit (.map none),.lit mt,.lit mt] 118)::lsA 43 2 idE (oneS x) X::lsA 4 1 boE (oneS y) Y::l) hq
noncomputable abbrev Sn(Γ:Glob)(v:SV)(L:List IdL)(Z0:Hp)(l:List Asrt):Cx:=fnC Tryz.prog Γ Tryz.f37 1 [] (d4 Z0::l) (dz Z0 (Q1 Γ v L l))
theorem ML(v:SV)(L:List IdL)(h1:L.Nodup/\((0,0):IdL)∉L/\(L.length:Int)<=1000)(bk0 bk1:Nat):∀(m:Nat) (Z:Hp) (i:Int) (a0 a1:SV) (X:List IdL) (Y:List Bool) (C:List (IdL×Bool)) (hi:0<=i/\i<=(L.length:Int)/\(X.length:Int)=i/\(Y.length:Int)=i/\NewI L i X Y C) (hm:((L.length:Int)-i).toNat<m),den (Sn Γ v L Z0 l) (.stop [0,1,0,1,1,1] zv7 zv0) ⟨2,0,0,3,2,7⟩ (va {i:=[(L.length:Int),i],r:=[v,a0,a1],n:=[bk0,bk1],a:=[lsA 43 2 idE (oneS v) L,lsA 43 2 idE (oneS (.lit mt)) [],lsA 4 1 boE (oneS (.lit mt)) [],mpA idK bbE bk1 [],lsA 43 2 idE (oneS a0) X,lsA 4 1 boE (oneS a1) Y,mpA idK bbE bk1 C]}) Z:=by
 intro m
 induction m with
 |zero=>intros;omega
 |succ m ih=>
  intro Z i a0 a1 X Y C hi hm;refine cZ [0,1,0,1,1,1] zv7 zv0 [] ⟨2,0,0,3,2,7⟩ (.fork (.lt (.v 1) (.v 0)) (.row (.idxA 38 (.raw 0) (vI 1)) [.asr 0] (.raw 3) ⟨2,0,0,4,2,7⟩<|.row (.load 43 (.raw 3)) [.asr 0] (.agg [vI 2,vI 3]) ⟨4,0,0,4,2,7⟩<|.new<|.row (.len 38 (.raw 1)) [.asr 4] (vI 4) ⟨5,0,0,4,3,7⟩<|.fork (.eq (.v 4) (.z 1000)) (.ret (.ptr 0 0) zv1)<|.fork (.and (.eq (.v 2) (.z 0)) (.eq (.v 3) (.z 0))) (.vc (xI (.add (.v 1) (.z 1)))<|.stop [0,1,0,1,1,1] zv5 zv0)<|.row (.look 39 (.map 1) (.agg [vI 2,vI 3]) false) [.asr 6] (vB 0) ⟨5,0,1,4,3,7⟩<|.fork (.bv 0) (.vc (xI (.add (.v 1) (.z 1)))<|.stop [0,1,0,1,1,1] zv5 zv0)<|.eff (.upd 39 (.map 1) (.agg [vI 2,vI 3]) (TB)) [.asr 6] (.lit (.tuple #[])) [.asr 7] ⟨5,0,1,4,3,8⟩<|.new<|.eff (.app [38,38] (.raw 1) (.slice 3 0 1 1)) [.asr 4,.blk 3 [vI 2,vI 3] 43] (.raw 4) [.asr 8] ⟨5,0,1,5,4,9⟩<|.new<|.eff (.app [114,114] (.raw 2) (.slice 4 0 1 1)) [.asr 5,.blk 4 [TB] 4] (.raw 5) [.asr 9] ⟨5,0,1,6,5,10⟩<|.vc (xI (.add (.v 1) (.z 1)))<|.stop [0,1,0,1,1,1] zv5 [.asr 7,.asr 9,.asr 8,.blk 0 [.raw 4,.raw 5,.lit (.map none),.lit mt,.lit mt] 118,.asr 0])<|.ret (.ptr 0 0) zv1) 100000 bm (λ_ h=>by cases h) ?_;refine bo (i<(L.length:Int)) rfl (λcd1=>?_) λcd1=>?_
  .refine drT {r:=[(elP (oneS v) (Int.toNat i*2))]} (λl h hs=>ga (m:=l) (h:=h) (i:=i) rfl rfl hs Kv0 Kv0) ?_;refine drT {i:=[(((lget L i)).1),(((lget L i)).2)]} (λl h hs=>ky (m:=l) (h:=h) (i:=i) rfl rfl hs Kv0 Kv0) ?_;refine bA λbk2=>?_;refine drT {i:=[(X.length:Int)]} (λl h hs=>eD (m:=l) (h:=h) rfl (λ_=>rfl) hs) ?_;refine bo ((X.length:Int)=1000) rfl (λcd2=>?_) λcd2=>?_
   .exact an λh hs=>⟨bk0,a0,a1,X,Y,Kv6,TY,hs⟩
   .refine bo (((((lget L i)).1)=0)/\((((lget L i)).2)=0)) rfl (λcd3=>?_) λcd3=>?_
    .refine bE (show I6 (i+1)from Kv0) ?_;exact bu (ih _ (i+1) a0 a1 X Y C Kv0 Kv0) rfl rfl
    .refine drT {b:=[(mget C ((((lget L i)).1),(((lget L i)).2)))]} (λl h hs=>mr (m:=l) (h:=h) (kc:=idK) (ve:=bbE) (L:=C) (k:=((((lget L i)).1),(((lget L i)).2))) rfl lF rfl rfl hs) ?_;refine bo ((mget C ((((lget L i)).1),(((lget L i)).2)))=true) rfl (λcd4=>?_) λcd4=>?_
     .refine bE (show I6 (i+1)from Kv0) ?_;exact bu (ih _ (i+1) a0 a1 X Y C Kv0 Kv0) rfl rfl
     .refine dJ (λ(_:Unit)=>{a:=[mpA idK bbE bk1 (mset C ((((lget L i)).1),(((lget L i)).2)) true)]}) (λ_=>True) (λl h hs=>ic (m:=l) (h:=h) (k:=((((lget L i)).1),(((lget L i)).2))) (x:=true) rfl lF hs rfl rfl) λ_ _=>?_;refine bA λbk3=>?_;refine dJ (λ(v101:SV)=>{r:=[v101],a:=[lsA 43 2 idE (oneS v101) (X++[((((lget L i)).1),(((lget L i)).2))])]}) (λ_=>True) (λl h hs=>iu (m:=l) (h:=h) rfl jV (by decide) hs TX rfl (by first|rfl|exact(idE_ok (((((lget L i)).1),(((lget L i)).2)))).2) Kv0) λv101 _=>?_;refine bA λbk4=>?_;refine dJ (λ(v102:SV)=>{r:=[v102],a:=[lsA 4 1 boE (oneS v102) (Y++[true])]}) (λ_=>True) (λl h hs=>iu (m:=l) (h:=h) rfl y8 (by decide) hs TX rfl (by first|rfl|exact(boE_ok (true)).2) Kv0) λv102 _=>?_;refine bE (show I6 (i+1)from Kv0) ?_;exact bu (ih _ (i+1) v101 v102 (X++[((((lget L i)).1),(((lget L i)).2))]) (Y++[true]) (mset C ((((lget L i)).1),(((lget L i)).2)) true) Kv0 Kv0) rfl rfl
  .exact an λh hs=>⟨bk0,a0,a1,X,Y,Kv6,TY,hs⟩
theorem QE(v:SV)(L:List IdL)(h1:L.Nodup/\((0,0):IdL)∉L/\(L.length:Int)<=1000)(hs:St Z0 (lsA 43 2 idE (oneS v) L::l) h):RC Γ Z0 37 [(oneS v)] h (Q1 Γ v L l):=by
 refine bL Tryz.f37 Tryz.func37 [.raw 0] [.asr 0] ⟨0,0,0,1,0,1⟩ (va {r:=[v],a:=[lsA 43 2 idE (oneS v) L]}) (.new<|.new<|.row (.len 38 (.raw 0)) [.asr 0] (vI 0) ⟨1,0,0,1,2,1⟩<|.swap [] [.asr 1] ⟨1,0,0,1,2,2⟩<|.swap [] [.asr 2] ⟨1,0,0,1,2,3⟩<|.swap [.obj 1 (.map [] 0)] [.asr 3] ⟨1,0,0,1,2,4⟩<|.stop [0,1,0,1,1,1] [(3,.ptr 0 0),(4,.map 1),(10,.raw 0),(11,vI 0),(12,Fd)] [.asr 3,.asr 2,.asr 1,.blk 0 [.lit mt,.lit mt,.lit (.map none),.lit mt,.lit mt] 118,.asr 0]) hs ?_;refine bA λbk0=>?_;refine bA λbk1=>?_;refine drT {i:=[(L.length:Int)]} (λl h hs=>eD (m:=l) (h:=h) rfl (λ_=>rfl) hs) ?_;refine dsU {a:=[lsA 43 2 idE (oneS (.lit mt)) []]} (λl h hs=>kS (hs) (m:=l) (h:=h)) ?_;refine dsU {a:=[lsA 4 1 boE (oneS (.lit mt)) []]} (λl h hs=>kS (hs) (m:=l) (h:=h)) ?_;refine dsU {a:=[mpA idK bbE bk1 []]} (λl h hs=>oa (hs) (m:=l) (h:=h)) ?_;exact bu (ML Γ v L h1 bk0 bk1 _ _ 0 (.lit mt) (.lit mt) ([]) ([]) ([]) Kv0 (aq _)) (by first|rfl|(simp only[ax,aY,XV.sv,va,Va.ext,fN,List.getD,ei];rfl)) (by first|rfl|(simp only[ei];rfl))
abbrev Sv(Γ:Glob)(P:Nat)(xa xn:Int)(x y:SV)(X:List IdL)(Y:List Bool):TG:=λl Zq vq hq=>∃ix:Int,(-1<=ix/\ix<(X.length:Int)/\IxI X (xa,xn) ix)/\vq=iV ix/\St Zq (own P (.cells [(oneS x),(oneS y),.lit (.map none),.lit mt,.lit mt] 118)::lsA 43 2 idE (oneS x) X::lsA 4 1 boE (oneS y) Y::l) hq
theorem S0(P:Nat)(xa xn:Int)(x y:SV)(X:List IdL)(Y:List Bool)(hX:(X.length:Int)<=1000)(hs:St Z0 (own P (.cells [(oneS x),(oneS y),.lit (.map none),.lit mt,.lit mt] 118)::lsA 43 2 idE (oneS x) X::lsA 4 1 boE (oneS y) Y::l) h):RC Γ Z0 123 [.ptr P 0,.agg [iV xa,iV xn]] h (Sv Γ P xa xn x y X Y l):=by
 refine bL Tryz.f123 Tryz.func123 MN zv2 ⟨2,0,0,2,1,2⟩ (va {i:=[xa,xn],r:=[x,y],n:=[P],a:=[lsA 43 2 idE (oneS x) X,lsA 4 1 boE (oneS y) Y]}) (.new<|.call 168 [.raw 0,.agg [vI 0,vI 1]] [.asr 0] (vI 2) [.asr 2] ⟨3,0,0,2,2,3⟩<|.ret (vI 2) [.blk 0 [.raw 0,.raw 1,.lit (.map none),.lit mt,.lit mt] 118,.asr 2,.asr 1]) hs ?_;refine bA λbk1=>?_;refine bS (λ(ix0:Int)=>{i:=[ix0],a:=[lsA 43 2 idE (oneS x) X]}) _ (λ_ _=>Tf Γ x xa xn X TJ) λZ ix0 qd0=>?_;exact an λh hs=>⟨ix0,TH,rfl,hs⟩
abbrev SH(Γ:Glob)(P:Nat)(x y:SV):TG:=λl Zq vq hq=>(True)/\vq=.tuple []/\St Zq (own P (.cells [(oneS x),(oneS y),.lit (.map none),.lit mt,.lit mt] 118)::l) hq
theorem R0(P:Nat)(x y:SV)(hs:St Z0 (own P (.cells [(oneS x),(oneS y),.lit (.map none),.lit mt,.lit mt] 118)::l) h):RC Γ Z0 124 [.ptr P 0] h (SH Γ P x y l):=by
 refine bL Tryz.f124 Tryz.func124 [.ptr 0 0] zv4 ⟨0,0,0,2,1,0⟩ (va {r:=[x,y],n:=[P]}) (.ret (.tup []) zv4) hs ?_;exact an λh hs=>⟨TH,rfl,hs⟩
abbrev RI(Γ:Glob)(P:Nat)(xa xn:Int)(x y:SV)(X:List IdL)(Y:List Bool):TG:=λl Zq vq hq=>∃e:Int,∃Y2:List Bool,(DelI X Y (xa,xn) Y2)/\vq=iV e/\St Zq (own P (.cells [(oneS x),(oneS y),.lit (.map none),.lit mt,.lit mt] 118)::lsA 43 2 idE (oneS x) X::lsA 4 1 boE (oneS y) Y2::l) hq
theorem SO(P:Nat)(xa xn:Int)(x y:SV)(X:List IdL)(Y:List Bool)(hX:(X.length:Int)<=1000)(hY:(Y.length:Int)=X.length)(hn:X.Nodup)(hs:St Z0 (own P (.cells [(oneS x),(oneS y),.lit (.map none),.lit mt,.lit mt] 118)::lsA 43 2 idE (oneS x) X::lsA 4 1 boE (oneS y) Y::l) h):RC Γ Z0 75 [.ptr P 0,.agg [iV xa,iV xn],bV false] h (RI Γ P xa xn x y X Y l):=by
 refine bL Tryz.f75 Tryz.func75 zv9 zv2 ⟨2,0,0,2,1,2⟩ (va {i:=[xa,xn],r:=[x,y],n:=[P],a:=[lsA 43 2 idE (oneS x) X,lsA 4 1 boE (oneS y) Y]}) (.new<|.call 123 MN zv2 (vI 2) zv3 ⟨3,0,0,4,2,4⟩<|.fork (.lt (.v 2) (.z 0)) (.ret (I (.z 3)) zv3)<|.row (.idxA 114 (.raw 3) (vI 2)) [.asr 3] (.raw 4) ⟨3,0,0,5,2,4⟩<|.row (.load 4 (.raw 4)) [.asr 3] (vB 0) ⟨3,0,1,5,2,4⟩<|.fork (.bv 0) (.row (.idxA 114 (.raw 3) (vI 2)) [.asr 3] (.raw 5) ⟨3,0,1,6,2,4⟩<|.eff (.store 4 (.raw 5) (TA)) [.asr 3] (.lit (.tuple #[])) [.asr 4] ⟨3,0,1,6,2,5⟩<|.call 124 [.ptr 0 0] [.blk 0 [.raw 2,.raw 3,.lit (.map none),.lit mt,.lit mt] 118] (.tup []) [.blk 0 zv6 118] ⟨3,0,1,8,2,5⟩<|.ret (Fd) [.blk 0 zv6 118,.asr 2,.asr 4])<|.ret (I (.z 11)) zv3) hs ?_;refine bA λbk1=>?_;refine bS (λ(ix0:Int)=>{i:=[ix0],r:=[x,y],a:=[lsA 43 2 idE (oneS x) X,lsA 4 1 boE (oneS y) Y]}) _ (λ_ _=>S0 Γ P xa xn x y X Y TJ) λZ ix0 qd0=>?_;refine bo (ix0<0) rfl (λcd1=>?_) λcd1=>?_
 .exact an λh hs=>⟨3,Y,Kv5,rfl,hs⟩
 .refine drT {r:=[(elP (oneS y) (Int.toNat ix0*1))]} (λl h hs=>ga (m:=l) (h:=h) (i:=ix0) rfl rfl hs TJ TJ) ?_;refine drT {b:=[(lget Y ix0)]} (λl h hs=>iO (m:=l) (h:=h) (i:=ix0) rfl rfl hs TJ TJ rfl) ?_;refine bo ((lget Y ix0)=true) rfl (λcd2=>?_) λcd2=>?_
  .refine drT {r:=[(elP (oneS y) (Int.toNat ix0*1))]} (λl h hs=>ga (m:=l) (h:=h) (i:=ix0) rfl rfl hs TJ TJ) ?_;refine dJ (λ(_:Unit)=>{a:=[lsA 4 1 boE (oneS y) (Ak Y ix0 false)]}) (λ_=>True) (λl h hs=>LC (m:=l) (h:=h) (i:=ix0) rfl hs TJ TJ rfl rfl TX) λ_ _=>?_;refine dcU {r:=[x,y]} (λ_ _=>R0 Γ P x y) λZ=>?_;exact an λh hs=>⟨0,(Ak Y ix0 false),Kv5,rfl,hs⟩
  .exact an λh hs=>⟨11,Y,Kv5,rfl,hs⟩
abbrev Tv(Γ:Glob)(P:Nat)(xa xn:Int)(x y:SV)(X:List IdL)(Y:List Bool):TG:=λl Zq vq hq=>∃e:Int,∃Y2:List Bool,(DelI X Y (xa,xn) Y2)/\vq=iV e/\St Zq (own P (.cells [(oneS x),(oneS y),.lit (.map none),.lit mt,.lit mt] 118)::lsA 43 2 idE (oneS x) X::lsA 4 1 boE (oneS y) Y2::l) hq
theorem Ps(P:Nat)(xa xn:Int)(x y:SV)(X:List IdL)(Y:List Bool)(hX:(X.length:Int)<=1000)(hY:(Y.length:Int)=X.length)(hn:X.Nodup)(hs:St Z0 (own P (.cells [(oneS x),(oneS y),.lit (.map none),.lit mt,.lit mt] 118)::lsA 43 2 idE (oneS x) X::lsA 4 1 boE (oneS y) Y::l) h):RC Γ Z0 38 [.ptr P 0,.agg [iV xa,iV xn]] h (Tv Γ P xa xn x y X Y l):=by
 refine bL Tryz.f38 Tryz.func38 MN zv2 ⟨2,0,0,2,1,2⟩ (va {i:=[xa,xn],r:=[x,y],n:=[P],a:=[lsA 43 2 idE (oneS x) X,lsA 4 1 boE (oneS y) Y]}) (.new<|.call 75 zv9 zv2 (vI 2) zv3 ⟨3,0,0,4,2,4⟩<|.ret (vI 2) zv3) hs ?_;refine bA λbk1=>?_;refine dc2 (λ(e0:Int) (Y20:(List Bool))=>{i:=[e0],r:=[x,y],a:=[lsA 43 2 idE (oneS x) X,lsA 4 1 boE (oneS y) Y20]}) _ (λ_ _=>SO Γ P xa xn x y X Y TJ TJ TJ) λZ e0 Y20 qd0=>?_;exact an λh hs=>⟨e0,Y20,TH,rfl,hs⟩
abbrev zw0:List MI:=[.asr 3,.blk 5 [.raw 9,.raw 10,.lit (.map none),.lit mt,.lit mt] 118,.asr 8,.asr 9,.blk 0 [.raw 0,.raw 1,.map 1,.raw 2,.raw 3,.map 2,.ptr 3 0,.ptr 4 0,vI 0,vI 1,vI 2,vI 3,vI 4,vT 0] 47,.asr 1,.asr 2]
abbrev zw1:List MI:=[.asr 3,.blk 5 [.raw 6,.raw 7,.lit (.map none),.lit mt,.lit mt] 118,.asr 6,.asr 7,.blk 0 [.raw 0,.raw 1,.map 1,.raw 2,.raw 3,.map 2,.ptr 3 0,.ptr 4 0,vI 0,vI 1,vI 2,vI 3,vI 4,vT 0] 47,.asr 1,.asr 2]
abbrev zw2:List MI:=[.blk 0 [.raw 0,.raw 1,.map 1,.raw 2,.raw 3,.map 2,.ptr 3 0,.ptr 4 0,vI 0,vI 1,vI 2,vI 3,vI 4,vT 0] 47,.asr 3,.asr 1,.asr 2,.blk 5 [.raw 6,.raw 7,.lit (.map none),.lit mt,.lit mt] 118,.asr 6,.asr 7]
abbrev zw3:List MI:=[.asr 3,.blk 5 [.raw 4,.raw 5,.lit (.map none),.lit mt,.lit mt] 118,.asr 4,.asr 5,.blk 0 [.raw 0,.raw 1,.map 1,.raw 2,.raw 3,.map 2,.ptr 3 0,.ptr 4 0,vI 0,vI 1,vI 2,vI 3,vI 4,vT 0] 47,.asr 1,.asr 2]
abbrev zw4:List MI:=[.blk 0 [.raw 0,.raw 1,.map 1,.raw 2,.raw 3,.map 2,.ptr 3 0,.ptr 4 0,vI 0,vI 1,vI 2,vI 3,vI 4,vT 1] 47,.asr 0,.asr 1,.asr 2]
abbrev zw5:List MI:=[.blk 0 [.raw 0,.raw 1,.map 1,.raw 2,.raw 3,.map 2,.ptr 3 0,.ptr 4 0,vI 0,vI 1,vI 2,vI 3,vI 4,vT 0] 47,.asr 0,.asr 1,.asr 2]
abbrev zw6:List MI:=[.blk 0 [.raw 0,.raw 1,.map 1,.raw 2,.raw 3,.map 2,.ptr 3 0,.ptr 4 0,vI 1,vI 2,vI 3,vI 4,vI 5,vT 0] 47]
abbrev zw7:List MI:=[.asr 3,.blk 5 [.raw 4,.raw 5,.lit (.map none),.lit mt,.lit mt] 118,.asr 4,.asr 5]
abbrev zw8:List MI:=[.blk 5 [.raw 9,.raw 10,.lit (.map none),.lit mt,.lit mt] 118,.asr 8,.asr 9]
abbrev zw9:List MI:=[.blk 5 [.raw 6,.raw 7,.lit (.map none),.lit mt,.lit mt] 118,.asr 6,.asr 7]
abbrev NX:List (Nat×XV):=[(3,.ptr 5 0),(14,.raw 1),(15,vI 5),(16,vI 6)]
abbrev Ph:List (Nat×XV):=[(3,.ptr 5 0),(14,.raw 3),(15,vI 5),(16,vI 6)]
theorem Kw0{P:Prop}(h:P:=by first|omega|exact⟨hw.n,hw.z,hl⟩|exact DeadI.end hi.2.2 bj|first|omega|(and_intros<;>intros<;>and_intros<;>first|omega|assumption|exact Mt qd0|exact C8 hi.2.2 bj bj qd100|exact hi.2.2.len|(have e:=hi.2.2.x;subst e;first|exact hw.n|omega)|exact DeadI.end hi.2.2 bj|exact V1)):P:=h
theorem Kw1{P:Prop}(h:P:=by first|omega|(and_intros<;>intros<;>and_intros<;>first|omega|assumption|exact tU hw (qd1.2.2.2.2 cd1) cd2 ⟨qd1.1,qd1.2.1,qd1.2.2.1,qd1.2.2.2.1⟩ cd4|exact s9 hw (qd1.2.2.2.2 cd1) cd2 ⟨qd1.1,qd1.2.1,qd1.2.2.1,qd1.2.2.2.1⟩ cd4|exact(tU hw (qd1.2.2.2.2 cd1) cd2 ⟨qd1.1,qd1.2.1,qd1.2.2.1,qd1.2.2.2.1⟩ cd4).w|exact(s9 hw (qd1.2.2.2.2 cd1) cd2 ⟨qd1.1,qd1.2.1,qd1.2.2.1,qd1.2.2.2.1⟩ cd4).w|(simp only[ac,au,aw];omega)|(have w1:=JJ s [32,100,101,97,100];omega)|exact V1)):P:=h
theorem Kw3{P:Prop}(h:P:=by first|rfl|exact(idE_ok ((xa1,xn1))).2):P:=h
theorem Kw5{P:Prop}(h:P:=by first|rfl|(show(iV 4:SV)=_;simp_all)):P:=h
theorem Kw8{P:Prop}(h:P:=by first|rfl|(show(.ptr P0 0:SV)=_;simp_all)):P:=h
theorem Kw9{P:Prop}(h:P:=by first|(rw[bi bj];done)|(rw[bh bj];done)):P:=h
theorem Jq{s p:bn}(h:Go.Lib.hasSuffix s p=true):s=Go.Lib.trimSuffix s p++p:=by
 obtain⟨t,rfl⟩:=List.isSuffixOf_iff_suffix.1 h;unfold Go.Lib.trimSuffix;rw[bi h];simp
theorem LU{s p:bn}(h:¬Go.Lib.hasSuffix s p=true):Go.Lib.trimSuffix s p=s:=by
 unfold Go.Lib.trimSuffix;rw[bh h]
theorem JJ(s p:bn):((Go.Lib.trimSuffix s p).length:Int)<=(s.length:Int):=by
 unfold Go.Lib.trimSuffix;split
 .rw[aL];omega
 .omega
def i64P(x:IdL):Prop:= TF x.1 (TE x.2)
structure SideI(I D:List IdL)(M:List (IdL×Bool)):Prop where
 n:I.Nodup
 d:D.Nodup
 s:∀x∈D,x∈I
 z:((0,0):IdL)∉I
 m:∀x,mget M x=true↔x∈I
 i:∀x∈I,i64P x
structure SideQ(s:bn)(I D I2 D2:List IdL)(M2:List (IdL×Bool)):Prop where
 w:SideI I2 D2 M2
 r:∃v:IdL,I2=I++[v]/\((D2=D/\s=idB v.1 v.2)\/(D2=D++[v]/\s=idB v.1 v.2++[32,100,101,97,100]))
section
variable {s:bn}{I D:List IdL}{M:List (IdL×Bool)}{v:IdL}
theorem zf(w:SideI I D M)(hz:v≠(0,0))(hm:¬mget M v=true)(hi:i64P v):SideI (I++[v]) D (mset M v true)/\SideI (I++[v]) (D++[v]) (mset M v true):=by
 have hv:v∉I:=λh=>hm ((w.m v).2 h);have hn:(I++[v]).Nodup:=List.nodup_append.2 ⟨w.n,by simp,λa ha b hb e=>hv (by rw[<-List.mem_singleton.1 hb,<-e];exact ha)⟩;have hz':((0,0):IdL)∉I++[v]:=λh=>(List.mem_append.1 h).elim w.z λh=>hz (List.mem_singleton.1 h).symm;have hm':∀x,mget (mset M v true) x=true↔x∈I++[v]:=λx=>by
  rw[ot,List.mem_append,List.mem_singleton];by_cases e:x=v
  .rw[bi e];simp[e]
  .rw[bh e,w.m x];simp[e]
 have hi':∀x∈I++[v],i64P x:=λx hx=>(List.mem_append.1 hx).elim (w.i x) λh=>by rw[List.mem_singleton.1 h];exact hi
 refine⟨⟨hn,w.d,λx hx=>aK _ (w.s x hx),hz',hm',hi'⟩,⟨hn,?_,?_,hz',hm',hi'⟩⟩
 .exact List.nodup_append.2 ⟨w.d,by simp,λa ha b hb e=>hv (w.s v (by rw[<-List.mem_singleton.1 hb,<-e];exact ha))⟩
 .intro x hx;exact(List.mem_append.1 hx).elim (λh=>aK _ (w.s x h)) λh=>aO _ h
theorem tU{a n:Int}(w:SideI I D M)(hid:IdI (Go.Lib.trimSuffix s [32,100,101,97,100]) a n)(hm:¬mget M (a,n)=true)(hi:i64P (a,n))(hs:¬Go.Lib.hasSuffix s [32,100,101,97,100]=true):SideQ s I D (I++[(a,n)]) D (mset M (a,n) true):=
 ⟨(zf w (λe=>hid.z ⟨congrArg Prod.fst e,congrArg Prod.snd e⟩) hm hi).1,(a,n),rfl,.inl ⟨rfl,by rw[hid.t,LU hs]⟩⟩
theorem s9{a n:Int}(w:SideI I D M)(hid:IdI (Go.Lib.trimSuffix s [32,100,101,97,100]) a n)(hm:¬mget M (a,n)=true)(hi:i64P (a,n))(hs:Go.Lib.hasSuffix s [32,100,101,97,100]=true):SideQ s I D (I++[(a,n)]) (D++[(a,n)]) (mset M (a,n) true):=
 ⟨(zf w (λe=>hid.z ⟨congrArg Prod.fst e,congrArg Prod.snd e⟩) hm hi).2,(a,n),rfl,.inr ⟨rfl,by rw[hid.t];exact Jq hs⟩⟩
end
abbrev RE(Γ:Glob)(R:Nat)(s:bn)(ri rd:SV)(RM:Nat)(ci cd:SV)(CM CE NA:Nat)(kd c0:Int)(c1 c2 c3:Int)(nm:bn)(Is Ds:List IdL)(Ms:List (IdL×Bool)):TG:=λl Zq vq hq=>∃e:Int,∃ri2:SV,∃rd2:SV,∃Is2:List IdL,∃Ds2:List IdL,∃Ms2:List (IdL×Bool),((e=0\/e=4\/e=5\/e=6)/\(e=0->SideQ s Is Ds Is2 Ds2 Ms2)/\(Is2.length:Int)<=1000/\(Ds2.length:Int)<=Is2.length/\SideI Is2 Ds2 Ms2)/\vq=iV e/\St Zq (own R (.cells [(oneS ri2),(oneS rd2),.map RM,(oneS ci),(oneS cd),.map CM,.ptr CE 0,.ptr NA 0,iV kd,iV c0,iV c1,iV c2,iV c3,sV nm] 47)::lsA 43 2 idE (oneS ri2) Is2::lsA 43 2 idE (oneS rd2) Ds2::mpA idK bbE RM Ms2::l) hq
theorem SG(R:Nat)(s:bn)(ri rd:SV)(RM:Nat)(ci cd:SV)(CM CE NA:Nat)(kd c0:Int)(c1 c2 c3:Int)(nm:bn)(Is Ds:List IdL)(Ms:List (IdL×Bool))(hs0:(s.length:Int)<=3000)(hw:SideI Is Ds Ms)(hl:(Is.length:Int)<=1000)(hd:(Ds.length:Int)<=Is.length)(hs:St Z0 (own R (.cells [(oneS ri),(oneS rd),.map RM,(oneS ci),(oneS cd),.map CM,.ptr CE 0,.ptr NA 0,iV kd,iV c0,iV c1,iV c2,iV c3,sV nm] 47)::lsA 43 2 idE (oneS ri) Is::lsA 43 2 idE (oneS rd) Ds::mpA idK bbE RM Ms::l) h):RC Γ Z0 34 [.ptr R 0,sV s] h (RE Γ R s ri rd RM ci cd CM CE NA kd c0 c1 c2 c3 nm Is Ds Ms l):=by
 refine bL Tryz.f34 Tryz.func34 [.ptr 0 0,vT 0] zw4 ⟨5,2,0,4,5,3⟩ (va {i:=[kd,c0,c1,c2,c3],t:=[s,nm],r:=[ri,rd,ci,cd],n:=[R,RM,CM,CE,NA],a:=[lsA 43 2 idE (oneS ri) Is,lsA 43 2 idE (oneS rd) Ds,mpA idK bbE RM Ms]}) (.call 67 [vT 0,.txt (.tl [32,100,101,97,100])] [] (.tup [vT 2,vB 0]) [] ⟨5,3,1,4,5,3⟩<|.call 68 [vT 2] [] (.tup [.agg [vI 5,vI 6],vB 1]) [] ⟨7,3,2,4,5,3⟩<|.new<|.fork (.bv 1) (.row (.look 39 (.map 1) (.agg [vI 5,vI 6]) false) [.asr 2] (vB 2) ⟨7,3,3,4,6,3⟩<|.fork (.bv 2) (.ret (I (.z 4)) zw4)<|.row (.len 38 (.raw 0)) [.asr 0] (vI 7) ⟨8,3,3,4,6,3⟩<|.fork (.eq (.v 7) (.z 1000)) (.ret (I (.z 5)) zw4)<|.eff (.upd 39 (.map 1) (.agg [vI 5,vI 6]) (TB)) [.asr 2] (.lit (.tuple #[])) [.asr 3] ⟨8,3,3,4,6,4⟩<|.new<|.eff (.app [38,38] (.raw 0) (.slice 6 0 1 1)) [.asr 0,.blk 6 [vI 5,vI 6] 43] (.raw 4) [.asr 4] ⟨8,3,3,5,7,5⟩<|.fork (.bv 0) (.new<|.eff (.app [38,38] (.raw 1) (.slice 7 0 1 1)) [.asr 1,.blk 7 [vI 5,vI 6] 43] (.raw 5) [.asr 5] ⟨8,3,3,6,8,6⟩<|.ret (Fd) [.blk 0 [.raw 4,.raw 5,.map 1,.raw 2,.raw 3,.map 2,.ptr 3 0,.ptr 4 0,vI 0,vI 1,vI 2,vI 3,vI 4,vT 1] 47,.asr 4,.asr 5,.asr 3])<|.ret (Fd) [.blk 0 [.raw 4,.raw 1,.map 1,.raw 2,.raw 3,.map 2,.ptr 3 0,.ptr 4 0,vI 0,vI 1,vI 2,vI 3,vI 4,vT 1] 47,.asr 4,.asr 1,.asr 3])<|.ret (Tz) zw4) hs ?_;refine dcU {t:=[(Go.Lib.trimSuffix s ([32,100,101,97,100]:bn))],b:=[(Go.Lib.hasSuffix s ([32,100,101,97,100]:bn))]} (λ_ _=>w9r Γ s ([32,100,101,97,100]:bn) Kw1) λZ=>?_;refine dc3 (λ(xa1:Int) (xn1:Int) (ok1:Bool)=>{i:=[xa1,xn1],b:=[ok1]}) _ (λ_ _=>Jf Γ (Go.Lib.trimSuffix s ([32,100,101,97,100]:bn)) Kw1) λZ xa1 xn1 ok1 qd1=>?_;refine bA λbk5=>?_;refine bo (ok1=true) rfl (λcd1=>?_) λcd1=>?_
 .refine drT {b:=[(mget Ms (xa1,xn1))]} (λl h hs=>mr (m:=l) (h:=h) (kc:=idK) (ve:=bbE) (L:=Ms) (k:=(xa1,xn1)) rfl lF rfl rfl hs) ?_;refine bo ((mget Ms (xa1,xn1))=true) rfl (λcd2=>?_) λcd2=>?_
  .exact an λh hs=>⟨4,ri,rd,Is,Ds,Ms,Kw1,Kw5,hs⟩
  .refine drT {i:=[(Is.length:Int)]} (λl h hs=>eD (m:=l) (h:=h) rfl (λ_=>rfl) hs) ?_;refine bo ((Is.length:Int)=1000) rfl (λcd3=>?_) λcd3=>?_
   .exact an λh hs=>⟨5,ri,rd,Is,Ds,Ms,Kw1,TZ,hs⟩
   .refine dJ (λ(_:Unit)=>{a:=[mpA idK bbE RM (mset Ms (xa1,xn1) true)]}) (λ_=>True) (λl h hs=>ic (m:=l) (h:=h) (k:=(xa1,xn1)) (x:=true) rfl lF hs rfl rfl) λ_ _=>?_;refine bA λbk6=>?_;refine dJ (λ(v3:SV)=>{r:=[v3],a:=[lsA 43 2 idE (oneS v3) (Is++[(xa1,xn1)])]}) (λ_=>True) (λl h hs=>iu (m:=l) (h:=h) rfl jV (by decide) hs TX rfl Kw3 Kw1) λv3 _=>?_;refine bo ((Go.Lib.hasSuffix s ([32,100,101,97,100]:bn))=true) rfl (λcd4=>?_) λcd4=>?_
    .refine bA λbk7=>?_;refine dJ (λ(v4:SV)=>{r:=[v4],a:=[lsA 43 2 idE (oneS v4) (Ds++[(xa1,xn1)])]}) (λ_=>True) (λl h hs=>iu (m:=l) (h:=h) rfl jV (by decide) hs TX rfl Kw3 Kw1) λv4 _=>?_;exact an λh hs=>⟨0,v3,v4,(Is++[(xa1,xn1)]),(Ds++[(xa1,xn1)]),(mset Ms (xa1,xn1) true),Kw1,TT,hs⟩
    .exact an λh hs=>⟨0,v3,rd,(Is++[(xa1,xn1)]),Ds,(mset Ms (xa1,xn1) true),Kw1,TT,hs⟩
 .exact an λh hs=>⟨6,ri,rd,Is,Ds,Ms,Kw1,T0,hs⟩
abbrev Sa(Γ:Glob)(R:Nat)(s:bn)(ri rd:SV)(RM:Nat)(ci cd:SV)(CM CE NA:Nat)(kd c0:Int)(c1 c2 c3:Int)(nm:bn)(Is Ds:List IdL)(Ms:List (IdL×Bool)):TG:=λl Zq vq hq=>∃e:Int,∃ci2:SV,∃cd2:SV,∃Is2:List IdL,∃Ds2:List IdL,∃Ms2:List (IdL×Bool),((e=0\/e=4\/e=5\/e=6)/\(e=0->SideQ s Is Ds Is2 Ds2 Ms2)/\(Is2.length:Int)<=1000/\(Ds2.length:Int)<=Is2.length/\SideI Is2 Ds2 Ms2)/\vq=iV e/\St Zq (own R (.cells [(oneS ri),(oneS rd),.map RM,(oneS ci2),(oneS cd2),.map CM,.ptr CE 0,.ptr NA 0,iV kd,iV c0,iV c1,iV c2,iV c3,sV nm] 47)::lsA 43 2 idE (oneS ci2) Is2::lsA 43 2 idE (oneS cd2) Ds2::mpA idK bbE CM Ms2::l) hq
theorem R4(R:Nat)(s:bn)(ri rd:SV)(RM:Nat)(ci cd:SV)(CM CE NA:Nat)(kd c0:Int)(c1 c2 c3:Int)(nm:bn)(Is Ds:List IdL)(Ms:List (IdL×Bool))(hs0:(s.length:Int)<=3000)(hw:SideI Is Ds Ms)(hl:(Is.length:Int)<=1000)(hd:(Ds.length:Int)<=Is.length)(hs:St Z0 (own R (.cells [(oneS ri),(oneS rd),.map RM,(oneS ci),(oneS cd),.map CM,.ptr CE 0,.ptr NA 0,iV kd,iV c0,iV c1,iV c2,iV c3,sV nm] 47)::lsA 43 2 idE (oneS ci) Is::lsA 43 2 idE (oneS cd) Ds::mpA idK bbE CM Ms::l) h):RC Γ Z0 34 [.ptr R 3,sV s] h (Sa Γ R s ri rd RM ci cd CM CE NA kd c0 c1 c2 c3 nm Is Ds Ms l):=by
 refine bL Tryz.f34 Tryz.func34 [.ptr 0 3,vT 0] zw4 ⟨5,2,0,4,5,3⟩ (va {i:=[kd,c0,c1,c2,c3],t:=[s,nm],r:=[ri,rd,ci,cd],n:=[R,RM,CM,CE,NA],a:=[lsA 43 2 idE (oneS ci) Is,lsA 43 2 idE (oneS cd) Ds,mpA idK bbE CM Ms]}) (.call 67 [vT 0,.txt (.tl [32,100,101,97,100])] [] (.tup [vT 2,vB 0]) [] ⟨5,3,1,4,5,3⟩<|.call 68 [vT 2] [] (.tup [.agg [vI 5,vI 6],vB 1]) [] ⟨7,3,2,4,5,3⟩<|.new<|.fork (.bv 1) (.row (.look 39 (.map 2) (.agg [vI 5,vI 6]) false) [.asr 2] (vB 2) ⟨7,3,3,4,6,3⟩<|.fork (.bv 2) (.ret (I (.z 4)) zw4)<|.row (.len 38 (.raw 2)) [.asr 0] (vI 7) ⟨8,3,3,4,6,3⟩<|.fork (.eq (.v 7) (.z 1000)) (.ret (I (.z 5)) zw4)<|.eff (.upd 39 (.map 2) (.agg [vI 5,vI 6]) (TB)) [.asr 2] (.lit (.tuple #[])) [.asr 3] ⟨8,3,3,4,6,4⟩<|.new<|.eff (.app [38,38] (.raw 2) (.slice 6 0 1 1)) [.asr 0,.blk 6 [vI 5,vI 6] 43] (.raw 4) [.asr 4] ⟨8,3,3,5,7,5⟩<|.fork (.bv 0) (.new<|.eff (.app [38,38] (.raw 3) (.slice 7 0 1 1)) [.asr 1,.blk 7 [vI 5,vI 6] 43] (.raw 5) [.asr 5] ⟨8,3,3,6,8,6⟩<|.ret (Fd) [.blk 0 [.raw 0,.raw 1,.map 1,.raw 4,.raw 5,.map 2,.ptr 3 0,.ptr 4 0,vI 0,vI 1,vI 2,vI 3,vI 4,vT 1] 47,.asr 4,.asr 5,.asr 3])<|.ret (Fd) [.blk 0 [.raw 0,.raw 1,.map 1,.raw 4,.raw 3,.map 2,.ptr 3 0,.ptr 4 0,vI 0,vI 1,vI 2,vI 3,vI 4,vT 1] 47,.asr 4,.asr 1,.asr 3])<|.ret (Tz) zw4) hs ?_;refine dcU {t:=[(Go.Lib.trimSuffix s ([32,100,101,97,100]:bn))],b:=[(Go.Lib.hasSuffix s ([32,100,101,97,100]:bn))]} (λ_ _=>w9r Γ s ([32,100,101,97,100]:bn) Kw1) λZ=>?_;refine dc3 (λ(xa1:Int) (xn1:Int) (ok1:Bool)=>{i:=[xa1,xn1],b:=[ok1]}) _ (λ_ _=>Jf Γ (Go.Lib.trimSuffix s ([32,100,101,97,100]:bn)) Kw1) λZ xa1 xn1 ok1 qd1=>?_;refine bA λbk5=>?_;refine bo (ok1=true) rfl (λcd1=>?_) λcd1=>?_
 .refine drT {b:=[(mget Ms (xa1,xn1))]} (λl h hs=>mr (m:=l) (h:=h) (kc:=idK) (ve:=bbE) (L:=Ms) (k:=(xa1,xn1)) rfl lF rfl rfl hs) ?_;refine bo ((mget Ms (xa1,xn1))=true) rfl (λcd2=>?_) λcd2=>?_
  .exact an λh hs=>⟨4,ci,cd,Is,Ds,Ms,Kw1,Kw5,hs⟩
  .refine drT {i:=[(Is.length:Int)]} (λl h hs=>eD (m:=l) (h:=h) rfl (λ_=>rfl) hs) ?_;refine bo ((Is.length:Int)=1000) rfl (λcd3=>?_) λcd3=>?_
   .exact an λh hs=>⟨5,ci,cd,Is,Ds,Ms,Kw1,TZ,hs⟩
   .refine dJ (λ(_:Unit)=>{a:=[mpA idK bbE CM (mset Ms (xa1,xn1) true)]}) (λ_=>True) (λl h hs=>ic (m:=l) (h:=h) (k:=(xa1,xn1)) (x:=true) rfl lF hs rfl rfl) λ_ _=>?_;refine bA λbk6=>?_;refine dJ (λ(v3:SV)=>{r:=[v3],a:=[lsA 43 2 idE (oneS v3) (Is++[(xa1,xn1)])]}) (λ_=>True) (λl h hs=>iu (m:=l) (h:=h) rfl jV (by decide) hs TX rfl Kw3 Kw1) λv3 _=>?_;refine bo ((Go.Lib.hasSuffix s ([32,100,101,97,100]:bn))=true) rfl (λcd4=>?_) λcd4=>?_
    .refine bA λbk7=>?_;refine dJ (λ(v4:SV)=>{r:=[v4],a:=[lsA 43 2 idE (oneS v4) (Ds++[(xa1,xn1)])]}) (λ_=>True) (λl h hs=>iu (m:=l) (h:=h) rfl jV (by decide) hs TX rfl Kw3 Kw1) λv4 _=>?_;exact an λh hs=>⟨0,v3,v4,(Is++[(xa1,xn1)]),(Ds++[(xa1,xn1)]),(mset Ms (xa1,xn1) true),Kw1,TT,hs⟩
    .exact an λh hs=>⟨0,v3,cd,(Is++[(xa1,xn1)]),Ds,(mset Ms (xa1,xn1) true),Kw1,TT,hs⟩
 .exact an λh hs=>⟨6,ci,cd,Is,Ds,Ms,Kw1,T0,hs⟩
structure DeadI(Is Ds:List IdL)(i:Int)(X:List IdL)(Y:List Bool):Prop where
 x:X=Is
 y:Y=Is.map λx=> !decide (x∈Ds.take i.toNat)
theorem Mt{Is Ds X:List IdL}{Y:List Bool}(h:X=Is/\Y=Is.map λ_=>true):DeadI Is Ds 0 X Y:=⟨h.1,by rw[h.2];simp⟩
theorem C8{Is Ds X:List IdL}{Y Y2:List Bool}{i:Int}(w:DeadI Is Ds i X Y)(h0:0<=i)(h1:i<(Ds.length:Int))(d:DelI X Y ((lget Ds i).1,(lget Ds i).2) Y2):DeadI Is Ds (i+1) X Y2:=by
 refine⟨w.x,?_⟩;rw[d.e,w.x,w.y,eh h0 h1];refine List.ext_getElem (by simp) λn a b=>?_;rw[List.getElem_zipWith,List.getElem_map,List.getElem_map];generalize Is[n]'(by simpa using b)=x;by_cases e:x=((lget Ds i).1,(lget Ds i).2)
 .have e':x=lget Ds i:=e;simp[e']
 .have e':¬x=lget Ds i:=e;rw[bc e];simp[e']
theorem DeadI.len{Is Ds X:List IdL}{Y:List Bool}{i:Int}(w:DeadI Is Ds i X Y):(Y.length:Int)=X.length:=by rw[w.y,w.x,ao]
theorem DeadI.end{Is Ds X:List IdL}{Y:List Bool}{i:Int}(w:DeadI Is Ds i X Y)(h:¬i<(Ds.length:Int)):X=Is/\Y=Is.map λx=> !decide (x∈Ds):=⟨w.x,by rw[w.y,List.take_of_length_le bj]⟩
abbrev Oa(Γ:Glob)(R:Nat)(ri rd:SV)(RM:Nat)(ci cd:SV)(CM CE NA:Nat)(kd c0:Int)(c1 c2 c3:Int)(nm:bn)(Is Ds:List IdL)(Ms:List (IdL×Bool)):TG:=λl Zq vq hq=>∃P:Nat,∃x:SV,∃y:SV,∃X:List IdL,∃Y:List Bool,(X=Is/\Y=Is.map λx=> !decide (x∈Ds))/\vq=.ptr P 0/\St Zq (own R (.cells [(oneS ri),(oneS rd),.map RM,(oneS ci),(oneS cd),.map CM,.ptr CE 0,.ptr NA 0,iV kd,iV c0,iV c1,iV c2,iV c3,sV nm] 47)::lsA 43 2 idE (oneS ri) Is::lsA 43 2 idE (oneS rd) Ds::mpA idK bbE RM Ms::own P (.cells [(oneS x),(oneS y),.lit (.map none),.lit mt,.lit mt] 118)::lsA 43 2 idE (oneS x) X::lsA 4 1 boE (oneS y) Y::l) hq
noncomputable abbrev Tt(Γ:Glob)(R:Nat)(ri rd:SV)(RM:Nat)(ci cd:SV)(CM CE NA:Nat)(kd c0:Int)(c1 c2 c3:Int)(nm:bn)(Is Ds:List IdL)(Ms:List (IdL×Bool))(Z0:Hp)(l:List Asrt):Cx:=fnC Tryz.prog Γ Tryz.f13 1 [] (d4 Z0::l) (dz Z0 (Oa Γ R ri rd RM ci cd CM CE NA kd c0 c1 c2 c3 nm Is Ds Ms l))
theorem Nh(R:Nat)(ri rd:SV)(RM:Nat)(ci cd:SV)(CM CE NA:Nat)(kd c0:Int)(c1 c2 c3:Int)(nm:bn)(Is Ds:List IdL)(Ms:List (IdL×Bool))(hw:SideI Is Ds Ms)(hl:(Is.length:Int)<=1000)(hd:(Ds.length:Int)<=Is.length)(P0:Nat)(x0 y0:SV)(X0:List IdL)(Y0:List Bool):∀(m:Nat) (Z:Hp) (ix:Int) (xx yy:SV) (X:List IdL) (Y:List Bool) (hi:0<=ix/\ix<=(Ds.length:Int)/\DeadI Is Ds ix X Y) (hm:((Ds.length:Int)-ix).toNat<m),den (Tt Γ R ri rd RM ci cd CM CE NA kd c0 c1 c2 c3 nm Is Ds Ms Z0 l) (.stop [0,1,0,1,1] NX zw1) ⟨7,1,0,8,6,8⟩ (va {i:=[kd,c0,c1,c2,c3,(Ds.length:Int),ix],t:=[nm],r:=[ri,rd,ci,cd,x0,y0,xx,yy],n:=[R,RM,CM,CE,NA,P0],a:=[lsA 43 2 idE (oneS ri) Is,lsA 43 2 idE (oneS rd) Ds,mpA idK bbE RM Ms,lsA 43 2 idE (oneS ri) Is,lsA 43 2 idE (oneS x0) X0,lsA 4 1 boE (oneS y0) Y0,lsA 43 2 idE (oneS xx) X,lsA 4 1 boE (oneS yy) Y]}) Z:=by
 intro m
 induction m with
 |zero=>intros;omega
 |succ m ih=>
  intro Z ix xx yy X Y hi hm;refine cZ [0,1,0,1,1] NX zw1 [] ⟨7,1,0,8,6,8⟩ (.fork (.lt (.v 6) (.v 5)) (.row (.idxA 38 (.raw 1) (vI 6)) [.asr 1] (.raw 8) ⟨7,1,0,9,6,8⟩<|.row (.load 43 (.raw 8)) [.asr 1] (.agg [vI 7,vI 8]) ⟨9,1,0,9,6,8⟩<|.new<|.call 38 [.ptr 5 0,.agg [vI 7,vI 8]] zw9 (vI 9) zw8 ⟨10,1,0,11,7,10⟩<|.vc (xI (.add (.v 6) (.z 1)))<|.stop [0,1,0,1,1] [(3,.ptr 5 0),(14,.raw 1),(15,vI 5),(16,I (.add (.v 6) (.z 1)))] zw0)<|.ret (.ptr 5 0) zw2) 100000 bm (λ_ h=>by cases h) ?_;refine bo (ix<(Ds.length:Int)) rfl (λcd1=>?_) λcd1=>?_
  .refine drT {r:=[(elP (oneS rd) (Int.toNat ix*2))]} (λl h hs=>ga (m:=l) (h:=h) (i:=ix) rfl rfl hs Kw0 Kw0) ?_;refine drT {i:=[(((lget Ds ix)).1),(((lget Ds ix)).2)]} (λl h hs=>ky (m:=l) (h:=h) (i:=ix) rfl rfl hs Kw0 Kw0) ?_;refine bA λbk6=>?_;refine dc2 (λ(e100:Int) (Y2100:(List Bool))=>{i:=[e100],r:=[xx,yy],a:=[lsA 43 2 idE (oneS xx) X,lsA 4 1 boE (oneS yy) Y2100]}) _ (λ_ _=>Ps Γ P0 (((lget Ds ix)).1) (((lget Ds ix)).2) xx yy X Y Kw0 Kw0 Kw0) λZ e100 Y2100 qd100=>?_;refine bE (show I6 (ix+1)from Kw0) ?_;exact bu (ih _ (ix+1) xx yy X Y2100 Kw0 Kw0) rfl rfl
  .exact an λh hs=>⟨P0,xx,yy,X,Y,Kw0,Kw8,hs⟩
theorem Tk(R:Nat)(ri rd:SV)(RM:Nat)(ci cd:SV)(CM CE NA:Nat)(kd c0:Int)(c1 c2 c3:Int)(nm:bn)(Is Ds:List IdL)(Ms:List (IdL×Bool))(hw:SideI Is Ds Ms)(hl:(Is.length:Int)<=1000)(hd:(Ds.length:Int)<=Is.length)(hs:St Z0 (own R (.cells [(oneS ri),(oneS rd),.map RM,(oneS ci),(oneS cd),.map CM,.ptr CE 0,.ptr NA 0,iV kd,iV c0,iV c1,iV c2,iV c3,sV nm] 47)::lsA 43 2 idE (oneS ri) Is::lsA 43 2 idE (oneS rd) Ds::mpA idK bbE RM Ms::l) h):RC Γ Z0 13 [.ptr R 0] h (Oa Γ R ri rd RM ci cd CM CE NA kd c0 c1 c2 c3 nm Is Ds Ms l):=by
 refine bL Tryz.f13 Tryz.func13 [.ptr 0 0] zw5 ⟨5,1,0,4,5,3⟩ (va {i:=[kd,c0,c1,c2,c3],t:=[nm],r:=[ri,rd,ci,cd],n:=[R,RM,CM,CE,NA],a:=[lsA 43 2 idE (oneS ri) Is,lsA 43 2 idE (oneS rd) Ds,mpA idK bbE RM Ms]}) (.call 37 [.raw 0] [.asr 0] (.ptr 5 0) zw7 ⟨5,1,0,6,6,6⟩<|.row (.len 38 (.raw 1)) [.asr 1] (vI 5) ⟨6,1,0,6,6,6⟩<|.stop [0,1,0,1,1] [(3,.ptr 5 0),(14,.raw 1),(15,vI 5),(16,Fd)] zw3) hs ?_;refine dc5 (λ(P0:Nat) (x0:SV) (y0:SV) (X0:(List IdL)) (Y0:(List Bool))=>{r:=[x0,y0],n:=[P0],a:=[lsA 43 2 idE (oneS ri) Is,lsA 43 2 idE (oneS x0) X0,lsA 4 1 boE (oneS y0) Y0]}) _ (λ_ _=>QE Γ ri Is Kw0) λZ P0 x0 y0 X0 Y0 qd0=>?_;refine drT {i:=[(Ds.length:Int)]} (λl h hs=>eD (m:=l) (h:=h) rfl (λ_=>rfl) hs) ?_;exact bu (Nh Γ R ri rd RM ci cd CM CE NA kd c0 c1 c2 c3 nm Is Ds Ms hw hl hd P0 x0 y0 X0 Y0 _ _ 0 x0 y0 X0 Y0 Kw0 (aq _)) rfl rfl
abbrev QD(Γ:Glob)(R:Nat)(ri rd:SV)(RM:Nat)(ci cd:SV)(CM CE NA:Nat)(kd c0:Int)(c1 c2 c3:Int)(nm:bn)(Is Ds:List IdL)(Ms:List (IdL×Bool)):TG:=λl Zq vq hq=>∃P:Nat,∃x:SV,∃y:SV,∃X:List IdL,∃Y:List Bool,(X=Is/\Y=Is.map λx=> !decide (x∈Ds))/\vq=.ptr P 0/\St Zq (own R (.cells [(oneS ri),(oneS rd),.map RM,(oneS ci),(oneS cd),.map CM,.ptr CE 0,.ptr NA 0,iV kd,iV c0,iV c1,iV c2,iV c3,sV nm] 47)::lsA 43 2 idE (oneS ci) Is::lsA 43 2 idE (oneS cd) Ds::mpA idK bbE CM Ms::own P (.cells [(oneS x),(oneS y),.lit (.map none),.lit mt,.lit mt] 118)::lsA 43 2 idE (oneS x) X::lsA 4 1 boE (oneS y) Y::l) hq
noncomputable abbrev RW(Γ:Glob)(R:Nat)(ri rd:SV)(RM:Nat)(ci cd:SV)(CM CE NA:Nat)(kd c0:Int)(c1 c2 c3:Int)(nm:bn)(Is Ds:List IdL)(Ms:List (IdL×Bool))(Z0:Hp)(l:List Asrt):Cx:=fnC Tryz.prog Γ Tryz.f13 1 [] (d4 Z0::l) (dz Z0 (QD Γ R ri rd RM ci cd CM CE NA kd c0 c1 c2 c3 nm Is Ds Ms l))
theorem Ml(R:Nat)(ri rd:SV)(RM:Nat)(ci cd:SV)(CM CE NA:Nat)(kd c0:Int)(c1 c2 c3:Int)(nm:bn)(Is Ds:List IdL)(Ms:List (IdL×Bool))(hw:SideI Is Ds Ms)(hl:(Is.length:Int)<=1000)(hd:(Ds.length:Int)<=Is.length)(P0:Nat)(x0 y0:SV)(X0:List IdL)(Y0:List Bool):∀(m:Nat) (Z:Hp) (ix:Int) (xx yy:SV) (X:List IdL) (Y:List Bool) (hi:0<=ix/\ix<=(Ds.length:Int)/\DeadI Is Ds ix X Y) (hm:((Ds.length:Int)-ix).toNat<m),den (RW Γ R ri rd RM ci cd CM CE NA kd c0 c1 c2 c3 nm Is Ds Ms Z0 l) (.stop [0,1,0,1,1] Ph zw1) ⟨7,1,0,8,6,8⟩ (va {i:=[kd,c0,c1,c2,c3,(Ds.length:Int),ix],t:=[nm],r:=[ri,rd,ci,cd,x0,y0,xx,yy],n:=[R,RM,CM,CE,NA,P0],a:=[lsA 43 2 idE (oneS ci) Is,lsA 43 2 idE (oneS cd) Ds,mpA idK bbE CM Ms,lsA 43 2 idE (oneS ci) Is,lsA 43 2 idE (oneS x0) X0,lsA 4 1 boE (oneS y0) Y0,lsA 43 2 idE (oneS xx) X,lsA 4 1 boE (oneS yy) Y]}) Z:=by
 intro m
 induction m with
 |zero=>intros;omega
 |succ m ih=>
  intro Z ix xx yy X Y hi hm;refine cZ [0,1,0,1,1] Ph zw1 [] ⟨7,1,0,8,6,8⟩ (.fork (.lt (.v 6) (.v 5)) (.row (.idxA 38 (.raw 3) (vI 6)) [.asr 1] (.raw 8) ⟨7,1,0,9,6,8⟩<|.row (.load 43 (.raw 8)) [.asr 1] (.agg [vI 7,vI 8]) ⟨9,1,0,9,6,8⟩<|.new<|.call 38 [.ptr 5 0,.agg [vI 7,vI 8]] zw9 (vI 9) zw8 ⟨10,1,0,11,7,10⟩<|.vc (xI (.add (.v 6) (.z 1)))<|.stop [0,1,0,1,1] [(3,.ptr 5 0),(14,.raw 3),(15,vI 5),(16,I (.add (.v 6) (.z 1)))] zw0)<|.ret (.ptr 5 0) zw2) 100000 bm (λ_ h=>by cases h) ?_;refine bo (ix<(Ds.length:Int)) rfl (λcd1=>?_) λcd1=>?_
  .refine drT {r:=[(elP (oneS cd) (Int.toNat ix*2))]} (λl h hs=>ga (m:=l) (h:=h) (i:=ix) rfl rfl hs Kw0 Kw0) ?_;refine drT {i:=[(((lget Ds ix)).1),(((lget Ds ix)).2)]} (λl h hs=>ky (m:=l) (h:=h) (i:=ix) rfl rfl hs Kw0 Kw0) ?_;refine bA λbk6=>?_;refine dc2 (λ(e100:Int) (Y2100:(List Bool))=>{i:=[e100],r:=[xx,yy],a:=[lsA 43 2 idE (oneS xx) X,lsA 4 1 boE (oneS yy) Y2100]}) _ (λ_ _=>Ps Γ P0 (((lget Ds ix)).1) (((lget Ds ix)).2) xx yy X Y Kw0 Kw0 Kw0) λZ e100 Y2100 qd100=>?_;refine bE (show I6 (ix+1)from Kw0) ?_;exact bu (ih _ (ix+1) xx yy X Y2100 Kw0 Kw0) rfl rfl
  .exact an λh hs=>⟨P0,xx,yy,X,Y,Kw0,Kw8,hs⟩
theorem R1(R:Nat)(ri rd:SV)(RM:Nat)(ci cd:SV)(CM CE NA:Nat)(kd c0:Int)(c1 c2 c3:Int)(nm:bn)(Is Ds:List IdL)(Ms:List (IdL×Bool))(hw:SideI Is Ds Ms)(hl:(Is.length:Int)<=1000)(hd:(Ds.length:Int)<=Is.length)(hs:St Z0 (own R (.cells [(oneS ri),(oneS rd),.map RM,(oneS ci),(oneS cd),.map CM,.ptr CE 0,.ptr NA 0,iV kd,iV c0,iV c1,iV c2,iV c3,sV nm] 47)::lsA 43 2 idE (oneS ci) Is::lsA 43 2 idE (oneS cd) Ds::mpA idK bbE CM Ms::l) h):RC Γ Z0 13 [.ptr R 3] h (QD Γ R ri rd RM ci cd CM CE NA kd c0 c1 c2 c3 nm Is Ds Ms l):=by
 refine bL Tryz.f13 Tryz.func13 [.ptr 0 3] zw5 ⟨5,1,0,4,5,3⟩ (va {i:=[kd,c0,c1,c2,c3],t:=[nm],r:=[ri,rd,ci,cd],n:=[R,RM,CM,CE,NA],a:=[lsA 43 2 idE (oneS ci) Is,lsA 43 2 idE (oneS cd) Ds,mpA idK bbE CM Ms]}) (.call 37 [.raw 2] [.asr 0] (.ptr 5 0) zw7 ⟨5,1,0,6,6,6⟩<|.row (.len 38 (.raw 3)) [.asr 1] (vI 5) ⟨6,1,0,6,6,6⟩<|.stop [0,1,0,1,1] [(3,.ptr 5 0),(14,.raw 3),(15,vI 5),(16,Fd)] zw3) hs ?_;refine dc5 (λ(P0:Nat) (x0:SV) (y0:SV) (X0:(List IdL)) (Y0:(List Bool))=>{r:=[x0,y0],n:=[P0],a:=[lsA 43 2 idE (oneS ci) Is,lsA 43 2 idE (oneS x0) X0,lsA 4 1 boE (oneS y0) Y0]}) _ (λ_ _=>QE Γ ci Is Kw0) λZ P0 x0 y0 X0 Y0 qd0=>?_;refine drT {i:=[(Ds.length:Int)]} (λl h hs=>eD (m:=l) (h:=h) rfl (λ_=>rfl) hs) ?_;exact bu (Ml Γ R ri rd RM ci cd CM CE NA kd c0 c1 c2 c3 nm Is Ds Ms hw hl hd P0 x0 y0 X0 Y0 _ _ 0 x0 y0 X0 Y0 Kw0 (aq _)) rfl rfl
abbrev R8(Γ:Glob)(R:Nat)(k:Int)(ri rd:SV)(RM:Nat)(ci cd:SV)(CM CE NA:Nat)(kd c0:Int)(c1 c2 c3:Int)(nm:bn):TG:=λl Zq vq hq=>∃kd2:Int,(kd2=(if kd<=k then k else kd))/\vq=bV (decide (kd<=k))/\St Zq (own R (.cells [(oneS ri),(oneS rd),.map RM,(oneS ci),(oneS cd),.map CM,.ptr CE 0,.ptr NA 0,iV kd2,iV c0,iV c1,iV c2,iV c3,sV nm] 47)::l) hq
theorem JR(R:Nat)(k:Int)(ri rd:SV)(RM:Nat)(ci cd:SV)(CM CE NA:Nat)(kd c0:Int)(c1 c2 c3:Int)(nm:bn)(hs:St Z0 (own R (.cells [(oneS ri),(oneS rd),.map RM,(oneS ci),(oneS cd),.map CM,.ptr CE 0,.ptr NA 0,iV kd,iV c0,iV c1,iV c2,iV c3,sV nm] 47)::l) h):RC Γ Z0 33 [.ptr R 0,iV k] h (R8 Γ R k ri rd RM ci cd CM CE NA kd c0 c1 c2 c3 nm l):=by
 refine bL Tryz.f33 Tryz.func33 [.ptr 0 0,vI 0] zw6 ⟨6,1,0,4,5,0⟩ (va {i:=[k,kd,c0,c1,c2,c3],t:=[nm],r:=[ri,rd,ci,cd],n:=[R,RM,CM,CE,NA]}) (.fork (.lt (.v 0) (.v 1)) (.ret (TA) zw6)<|.ret (TB) [.blk 0 [.raw 0,.raw 1,.map 1,.raw 2,.raw 3,.map 2,.ptr 3 0,.ptr 4 0,vI 0,vI 2,vI 3,vI 4,vI 5,vT 0] 47]) hs ?_;refine bo (k<kd) rfl (λcd1=>?_) λcd1=>?_
 .exact an λh hs=>⟨kd,Kw9,by first|rfl|(show(bV false:SV)=_;simp_all;done)|(show(bV false:SV)=_;simp_all;omega),hs⟩
 .exact an λh hs=>⟨k,Kw9,by first|rfl|(show(bV true:SV)=_;simp_all;done)|(show(bV true:SV)=_;simp_all;omega),hs⟩
end Go.Proofs.YtbhokokpplmigaaGreatDoor.Sx
