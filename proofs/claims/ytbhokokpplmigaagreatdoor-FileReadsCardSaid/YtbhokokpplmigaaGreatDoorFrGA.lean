/-
  A part of the proof of FileReads; no condition.
-/
import Derived.Test.YtbhokokpplmigaaGreatDoorEvGC
import Derived.Test.YtbhokokpplmigaaGreatDoorProg
import Derived.KernelRfl
set_option linter.all false
namespace Go.Proofs.YtbhokokpplmigaaGreatDoor.fr
open Go Go.Proofs.YtbhokokpplmigaaGreatDoor.Ev
def QX:Code->Code
 | .seq a _=>a
 |c=>c
def Dq:Code->Code
 | .seq _ b=>b
 |c=>c
def Bk:Code->Code
 | .block _ c=>c
 |c=>c
def fg(f:Func):Code:=match f.body with
 |some c=>c
 |none=>.skip
def Rk:Code->Code
 | .rangeFunc _ _ a _=>a
 |c=>c
def O9:Code->Code
 | .rangeFunc _ _ _ b=>b
 |c=>c
theorem gc{P:Program}{Γ:Glob}{h:Hp}{t:TypeId}{b k:Nat}{cs:List SV}{e:TypeId}{v:SV}(ht:e8 P t=some false)(hb:h.objs.get b=some (.cells cs e))(hv:cs[k]? =some v):dk P Γ h t (.ptr b k)=some (v,[.cells b k [v]]):=by
 have hcut:cut cs k 1=some [v]:=by
  have:(cs.drop k).take 1=[v]:=by rw[List.take_one,List.head?_drop,hv];rfl
  simp only[cut,this];rfl
 simp only[dk,ht,bF,knownCells,hb,ay,hcut]
theorem wD{P:Program}{Γ:Glob}{h:Hp}{t:TypeId}{b k n:Nat}{cs vs:List SV}{e:TypeId}(ht:e8 P t=some true)(hs:bI P t=some n)(hb:h.objs.get b=some (.cells cs e))(hv:cut cs k n=some vs):dk P Γ h t (.ptr b k)=some (.agg vs,[.cells b k vs]):=by
 simp only[dk,ht,hs,bF,knownCells,hb,ay,hv]
section
variable {P:Program}{Γ:Glob}{ops:Array Oper}{o:Oper}{l:List Oper}{tm:T SV}{n d:Nat}{ms:List Nat}{hp:Hp}{Φ:Out->Prop}
theorem ya[Mute Γ]{outs:List (SV×Hp)}(hw:cL ops ⟨tm,n,ms⟩ o=some true)(hq:quiet P Γ hp (Fr.ev ⟨tm,n,ms⟩) o.op=none)(hc:cz (Fr.ev ⟨tm,n,ms⟩) o.op=none)(he:effect P Γ hp (Fr.ev ⟨tm,n,ms⟩) o.op=some outs)(hn:∀r∈outs,hp.next<=r.2.next)(hd:o.dst=some d)(hb:Nat.blt d n=true)
 (h:∀r∈outs,cr P Γ ops l ⟨tm.set d r.1,n,ms⟩ r.2 Φ):cr P Γ ops (o::l) ⟨tm,n,ms⟩ hp Φ:=by
 refine iT (Ends.bind (g:=λ_ (r:SV×Hp)=>some [((⟨tm.set d r.1,n,ms⟩:Fr),r.2)]) (Φ:=λr=>r∈outs) ⟨0,outs,λ_ _=>rfl,λ_ h=>h⟩ (λr hr=>Ends.one (λ_=>rfl) (h r hr)) λk xs hxs=>?_);obtain rfl:=ab hxs;have hall:outs.all (λr=>Nat.ble hp.next r.2.next)=true:=aE.2 λr hr=>ai (hn r hr);simp only[oper,hw,fh hq,lW,hc,he,hall,bf];congr 1;funext r;rw[ly hd hb];rfl
theorem ul[Mute Γ]{b:Nat}{args:List SV}(hw:cL ops ⟨tm,n,ms⟩ o=some true)(hq:quiet P Γ hp (Fr.ev ⟨tm,n,ms⟩) o.op=none)(hc:cz (Fr.ev ⟨tm,n,ms⟩) o.op=some (.round b args))(hd:o.dst=some d)(hb:Nat.blt d n=true)
 (h:Runs P Γ (.round b args hp) λr=>cr P Γ ops l ⟨tm.set d r.v,n,ms⟩ r.hp Φ):cr P Γ ops (o::l) ⟨tm,n,ms⟩ hp Φ:=by
 refine iT (Ends.bind (g:=λ_ (r:Out)=>some [((⟨tm.set d r.v,n,ms⟩:Fr),r.hp)]) h (λr hr=>Ends.one (λ_=>rfl) hr) λk xs hxs=>?_);have hxs:f8 P Γ theMem k (.round b args hp)=some xs:=hxs;simp only[oper,hw,fh hq,lW,hc,hxs,af];rw[oC];congr 1;funext r;rw[ly hd hb];rfl
theorem rg{b:Nat}{args:List SV}{x:ALoop}{fr:Fr}(hb:hp.objs.get b=some (.loop x))(hl:Nat.beq args.length x.params.size=true)(hs:jC (x.params.toList.zip args) ⟨x.tmps,x.sz,[]⟩=some fr)
 (h:Runs P Γ (.code x.assign (some b) fr hp) λo=>∃y,o.exit=.normal/\o.hp.objs.get b=some (.loop y)/\y.state=.ready/\Runs P Γ (.code x.body (some b) o.fr (o.hp.upd b (.loop {y with state:=.busy}))) λo2=>∃r,eG b o2=some [r]/\Φ r):
 Runs P Γ (.round b args hp) Φ:=by
 refine Runs.step (Ends.bind (g:=λk o=>gJ (f8 P Γ theMem k) b x.body o) h (λo ho=>?_) λk xs hxs=>?_)
 .obtain⟨y,h1,h2,h3,h4⟩:=ho;refine Ends.bind (g:=λ_ o2=>eG b o2) h4 (λo2 ⟨r,h5,h6⟩=>Ends.one (λ_=>h5) h6) λk xs hxs=>?_;have hxs:f8 P Γ theMem k (.code x.body (some b) o.fr (o.hp.upd b (.loop {y with state:=.busy})))=some xs:=hxs;simp only[gJ,h1,h2,h3,hxs]
 .have hxs:f8 P Γ theMem k (.code x.assign (some b) fr hp)=some xs:=hxs;simp only[hU,bO,hb,hl,bf,hs,hxs]
end
structure At(h:Hp)(b:Nat)(o:AObj):Prop where
 lt:b<h.next
 get:h.objs.get b=some o
theorem At.kept{h H:Hp}{b:Nat}{o:AObj}(a:At h b o)(k:Kept h.next h H):At H b o:=⟨aM a.lt k.next,(k.old b a.lt).trans a.get⟩
theorem _root_.Go.Proofs.YtbhokokpplmigaaGreatDoor.Ev.Kept.then {a b c:Hp}(h:Kept a.next a b)(h':Kept b.next b c):Kept a.next a c:=h.trans (h'.less h.next)
section
variable {P:Program}{Γ:Glob}[Mute Γ]{ops:Array Oper}{o:Oper}{l:List Oper}{tm:T SV}{n d:Nat}{ms:List Nat}{hp:Hp}{Φ:Out->Prop}
theorem BN{e:TypeId}{x:Operand}{cs:List SV}(w1:cL ops ⟨tm,n,ms⟩ o=some true)(h1:o.op=.box e x)(hx:(Fr.ev ⟨tm,n,ms⟩ x).cells=cs)(hd:o.dst=some d)(hn:Nat.blt d n=true)
 (k:∀H,At H hp.next (.cells cs e)->Kept hp.next hp H->H.next=hp.next+1->cr P Γ ops l ⟨tm.set d (.ptr hp.next 0),n,ms⟩ H Φ):cr P Γ ops (o::l) ⟨tm,n,ms⟩ hp Φ:=by
 refine il (v:=.ptr hp.next 0) (hp':=⟨hp.objs.set hp.next (.cells cs e),hp.next+1⟩) w1 (by rw[h1];rfl) (by rw[h1];rfl) (by rw[h1,<-hx];rfl) (Nat.le_succ _) hd hn ?_;exact k _ ⟨aq _,cA⟩ ⟨Nat.le_succ _,λb hb=>cl (Nat.ne_of_lt hb)⟩ rfl
theorem y3{o2:Oper}{e:TypeId}{z:Value}{cs:List SV}{m:Nat}{x:Operand}(w1:cL ops ⟨tm,n,ms⟩ o=some true)(h1:o.op=.alloc e)(hz:dB P e=some z)(hd:o.dst=some d)(hn:Nat.blt d n=true)
 (w2:cL ops ⟨tm.set d (.ptr hp.next 0),n,ms⟩ o2=some true) (h2:o2.op=.store e (.tmp d) x) (p2:o2.dst=none) (hx:(Fr.ev ⟨tm.set d (.ptr hp.next 0),n,ms⟩ x).cells=cs) (hs:bI P e=some m) (hzl:(SV.cells (.lit z)).length=m) (hl:cs.length=m) (hone:cs.all SV.one=true)
 (k:∀H,At H hp.next (.cells cs e)->Kept hp.next hp H->H.next=hp.next+1->cr P Γ ops l ⟨tm.set d (.ptr hp.next 0),n,ms⟩ H Φ):cr P Γ ops (o::o2::l) ⟨tm,n,ms⟩ hp Φ:=by
 refine il (v:=.ptr hp.next 0) (hp':=⟨hp.objs.set hp.next (.cells (SV.cells (.lit z)) e),hp.next+1⟩) w1 (by rw[h1];rfl) (by rw[h1];rfl) (by rw[h1];simp only[effect,hz,af];rfl) (Nat.le_succ _) hd hn ?_;refine Ae (v:=.lit undef) (hp':=⟨(hp.objs.set hp.next (.cells (SV.cells (.lit z)) e)).set hp.next (.cells cs e),hp.next+1⟩) w2 (by rw[h2];rfl) (by rw[h2];rfl) ?_ (av _) p2 ?_
 .rw[h2];exact oG hs (by rw[bU,bi rfl]) rfl (by rw[hx];exact hl) (by show(hp.objs.set _ _).get _=_;rw[T.get_set,bi rfl]) (by rw[hx];exact wx (by rw[hzl];exact hl.symm) hone)
 .exact k _ ⟨aq _,cA⟩ ⟨Nat.le_succ _,λb hb=>(cl (Nat.ne_of_lt hb)).trans (cl (Nat.ne_of_lt hb))⟩ rfl
end
theorem gH{P:Program}{h:Hp}{f:FuncId}{args:List SV}{fn:Func}(hf:P.funcs[f]? =some fn)(hb:fn.body.isNone=false):gw P h f args=none:=by
 unfold gw;split
 .rename_i fn' t b hfn;rw[hf]at hfn;obtain rfl:=ab hfn;simp only[hb,Bool.false_and,bg]
 .rfl
theorem kF{B:Nat}{fr:Fr}{h:Hp}{x:ALoop}{v:SV}(hB:h.objs.get B=some (.loop x)):eG B ⟨.normal,fr,h,v⟩=some [⟨.ret,fr,h.upd B (.loop {x with state:=.ready,pending:=none}),.lit (.bool true)⟩]:=by
 simp only[eG,gG,hB];rfl
theorem nG{P:Program}{Γ:Glob}{fn:Func}{tm:T SV}{n D t:Nat}{h:Hp}{v v0:SV}(hr:fn.results.toList=[.tmp t])(hD:h.objs.get D=some (.deferred true))(he:Fr.ev ⟨tm,n,[D]⟩ (.tmp t)=v):g8 P Γ fn ⟨.ret,⟨tm,n,[D]⟩,h,v0⟩=some [⟨.ret,⟨tm,n,[D]⟩,h.upd D (.deferred false),v⟩]:=by
 simp only[g8,eH,hD,hr,dX,af,he]
theorem _root_.Go.Proofs.YtbhokokpplmigaaGreatDoor.Ev.RowIs.less {h:Hp}{lo lo' bl:Nat}{e:TypeId}{n:Nat}{v:SV}{l:List (List SV)}(hr:RowIs h lo bl e n v l)(hl:lo'<=lo):RowIs h lo' bl e n v l:=by
 rcases hr with hr|⟨r1,r2,r3,r4⟩
 .exact .inl hr
 .exact .inr ⟨r1,Nat.le_trans hl r2,r3,r4⟩
theorem sX{P:Program}{Γ:Glob}{h:Hp}{ρ:Operand->SV}{t:TypeId}{a x:Operand}{b:Nat}{v w:SV}{e:TypeId}(hs:bI P t=some 1)(ha:ρ a=.ptr b 0)(hx:ρ x=v)(h1:SV.one v=true)(hb:h.objs.get b=some (.cells [w] e)):
 effect P Γ h ρ (.store t a x)=some [(.lit undef,⟨h.objs.set b (.cells [v] e),h.next⟩)]:=by
 have hc:v.cells=[v]:=by
  unfold SV.cells;split
  .cases h1
  .cases h1
  .rfl
 refine oG hs ha hx (by rw[hc];rfl) hb ?_;rw[hc];simp only[cH,al,List.all_nil,h1,Bool.and_true];rfl
abbrev ktV(z:bn):SV:=.lit (.string ⟨⟨z⟩⟩)
abbrev ktE(z:bn):List SV:=[.lit (.string ⟨⟨z⟩⟩)]
noncomputable def KQ:Code:=(Bk (Dq (QX (Dq (fg Tryz.f139)))))
noncomputable def Rl:Code:=Rk KQ
noncomputable def Hh:Code:=O9 KQ
noncomputable def g9(ftm:T SV)(df:Nat):ALoop:=⟨.ready,none,0,ftm,13,#[7],Rl,Hh,df⟩
noncomputable def KZ:Code:=(Bk (Dq (fg Tryz.f92)))
set_option maxRecDepth 10000 in
theorem O5:tyU Tryz.prog 59=some (.slice 9):=rfl
set_option maxRecDepth 10000 in
theorem JU:∃i z,Tryz.prog.info? 9=some i/\i.zero=some z/\i.size=1/\i.bytes<=1000/\(SV.cells (.lit z)).length=1:=⟨_,_,rfl,rfl,rfl,by decide,rfl⟩
theorem Dr{Γ:Glob}{h:Hp}{lo bl nb:Nat}{v:SV}{zs:List bn}{z:bn}(hr:RowIs h lo bl 9 1 v (zs.map ktE))(hn:zs.length<=1000000)(hlo:lo<=h.next)(hnb:h.objs.get nb=some (.cells (ktE z) 9)):
 ∃v' h',cQ Tryz.prog Γ h [59,59] v (.slice nb 0 1 1)=some (v',h')/\RowIs h' lo h.next 9 1 v' ((zs++[z]).map ktE)/\h'.next=h.next+1/\∀b,b<h.next->(v=.lit (.slice none 0 0)\/b≠bl)->h'.objs.get b=h.objs.get b:=by
 obtain⟨i,y,hi,hz,hsz,hby,hzs⟩:=JU;have:=ry (Γ:=Γ) O5 hi hz hby bj (by rw[hsz];exact hzs) (by rw[hsz];exact hr) (λx hx=>by obtain⟨y,_,rfl⟩:=List.mem_map.1 hx;rw[hsz];rfl) (c:=ktE z) (nb:=nb) (by rw[hsz];rfl) rfl (by rw[ao];omega) hlo hnb;rw[hsz,show zs.map ktE++[ktE z]=(zs++[z]).map ktE by rw[aH];rfl]at this;exact this
set_option maxHeartbeats 8000000 in
set_option maxRecDepth 20000 in
theorem Ih(Γ:Glob)[Mute Γ](A B lo df:Nat)(ftm tm:T SV)(e2:Fr.ev ⟨tm,13,[]⟩ (.tmp 2)=.ptr A 0)(h:Hp)(z:bn)(e5:Fr.ev ⟨tm,13,[]⟩ (.tmp 5)=ktV z)(v:SV)(bl:Nat)(zs:List bn)
 (hB:At h B (.loop (g9 ftm df))) (hA:At h A (.cells [v] 59)) (hrow:RowIs h lo bl 9 1 v (zs.map ktE)) (hn:zs.length<=1000000) (hlo:lo<=h.next) (hAl:A<lo) (hBl:B<lo):
 Runs Tryz.prog Γ (.code Hh (some B) ⟨tm,13,[]⟩ (h.upd B (.loop {g9 ftm df with state:=.busy}))) λo2=>∃r,eG B o2=some [r]/\(r.v=.lit (.bool true)/\∃v' bl',At r.hp B (.loop (g9 ftm df))/\At r.hp A (.cells [v'] 59)/\RowIs r.hp lo bl' 9 1 v' ((zs++[z]).map ktE)/\h.next<=r.hp.next/\∀b,b<lo->b≠A->b≠B->r.hp.objs.get b=h.objs.get b):=by
 have hAB:A≠B:=by
  rintro rfl;have:=hA.get.symm.trans hB.get;cases this
 generalize hh2:h.upd B (.loop {g9 ftm df with state:=.busy})=h2;have hn2:h2.next=h.next:=by rw[<-hh2];rfl
 have hg2:∀b,b≠B->h2.objs.get b=h.objs.get b:=λb hb=>by rw[<-hh2];exact cl hb
 have hA2:At h2 A (.cells [v] 59):=⟨by rw[hn2];exact hA.lt,(hg2 A hAB).trans hA.get⟩;have hB2:h2.objs.get B=some (.loop {g9 ftm df with state:=.busy}):=by rw[<-hh2];exact cA
 have hrow2:RowIs h2 lo bl 9 1 v (zs.map ktE):=hrow.kept bj λ_ h=>hg2 bl bj;generalize hh3:(⟨h2.objs.set h2.next (.cells (ktE z) 9),h2.next+1⟩:Hp)=h3;have hn3:h3.next=h2.next+1:=by rw[<-hh3]
 have hg3:∀b,b≠h2.next->h3.objs.get b=h2.objs.get b:=λb hb=>by rw[<-hh3];exact cl hb
 have hnb3:h3.objs.get h2.next=some (.cells (ktE z) 9):=by rw[<-hh3];exact cA
 have hrow3:RowIs h3 lo bl 9 1 v (zs.map ktE):=hrow2.kept bj λh _=>hg3 bl bj;obtain⟨v',h4,happ,hrow4,hn4,hg4⟩:=Dr (Γ:=Γ) hrow3 hn bj hnb3;have hold4:∀b,b<lo->h4.objs.get b=h3.objs.get b:=λb hb=>by
  by_cases hvn:v=.lit (.slice none 0 0)
  .exact hg4 b bj (.inl hvn)
  .refine hg4 b bj (.inr ?_);rcases hrow with⟨e,_⟩|⟨_,e,_⟩
   .exact absurd e hvn
   .omega
 have hA4:h4.objs.get A=some (.cells [v] 59):=(hold4 A hAl).trans ((hg3 A bj).trans hA2.get);have hB4:h4.objs.get B=some (.loop {g9 ftm df with state:=.busy}):=(hold4 B hBl).trans ((hg3 B bj).trans hB2);have h1v:SV.one v'=true:=hrow4.same.1;have hlt4:h.next<=h4.next:=by omega
 have hA_:A<h4.next:=by omega
 have hB_:B<h4.next:=by omega
 have hBA:B≠A:=λe=>hAB e.symm;have hle3:h2.next<=h3.next:=by omega
 have hle4:h3.next<=h4.next:=by omega
 have hbs:ge Tryz.prog h2 59 1 [(0,ktV z)]=some (.slice h2.next 0 1 1,h3):=by
  rw[<-hh3];rfl
 refine d7 ?_;refine bC ?_;refine cK (v:=v) (fs:=[.cells A 0 [v]]) rfl (by simp only[quiet,e2];exact gc rfl hA2.get rfl) rfl rfl ?_;refine cK (v:=ktV z) (fs:=[]) rfl (by simp only[quiet,bU,e5]<;>rfl) rfl rfl ?_;refine il (v:=.slice h2.next 0 1 1) (hp':=h3) rfl rfl rfl (by simp only[effect,bU,ax,aY,Array.toList];exact congrArg Ev.val hbs) hle3 rfl rfl ?_;refine il (v:=v') (hp':=h4) rfl rfl rfl (by simp only[effect,bU];exact congrArg Ev.val happ) hle4 rfl rfl ?_;refine Ae (v:=.lit undef) (hp':=⟨h4.objs.set A (.cells [v'] 59),h4.next⟩) rfl rfl rfl (sX (v:=v') (w:=v) rfl (by simp only[bU];exact e2) (by simp only[bU]<;>rfl) h1v hA4) (av _) rfl ?_;refine cn ?_;rw[show ∀fr hp v,lh 1 ⟨.normal,fr,hp,v⟩=⟨.normal,fr,hp,v⟩from λ_ _ _=>rfl];have hB5:(⟨h4.objs.set A (.cells [v'] 59),h4.next⟩:Hp).objs.get B=some (.loop {g9 ftm df with state:=.busy}):=(cl hBA).trans hB4;refine⟨_,kF hB5,rfl,v',h3.next,⟨hB_,cA⟩,⟨hA_,(cl hAB).trans cA⟩,?_,hlt4,λb hb h1 h2=>?_⟩
 .refine hrow4.kept (av _) λ_ h=>?_;have:lo<=h3.next:=by omega
  exact(cl bj).trans (cl bj)
 .exact(cl h2).trans ((cl h1).trans ((hold4 b hb).trans ((hg3 b bj).trans (hg2 b h2))))
set_option maxHeartbeats 8000000 in
set_option maxRecDepth 20000 in
theorem GR(Γ:Glob)[Mute Γ](A B lo df:Nat)(ftm:T SV)(e2:Fr.ev ⟨ftm,13,[]⟩ (.tmp 2)=.ptr A 0)(h:Hp)(z:bn)(v:SV)(bl:Nat)(zs:List bn)
 (hB:At h B (.loop (g9 ftm df))) (hA:At h A (.cells [v] 59)) (hrow:RowIs h lo bl 9 1 v (zs.map ktE)) (hn:zs.length<=1000000) (hlo:lo<=h.next) (hAl:A<lo) (hBl:B<lo):
 Runs Tryz.prog Γ (.round B [ktV z] h) λr=>r.v=.lit (.bool true)/\∃v' bl',At r.hp B (.loop (g9 ftm df))/\At r.hp A (.cells [v'] 59)/\RowIs r.hp lo bl' 9 1 v' ((zs++[z]).map ktE)/\h.next<=r.hp.next/\∀b,b<lo->b≠A->b≠B->r.hp.objs.get b=h.objs.get b:=by
 refine rg (fr:=⟨ftm.set 7 (ktV z),13,[]⟩) hB.get rfl rfl ?_;refine bC ?_;refine cK (v:=ktV z) (fs:=[]) rfl (by simp only[quiet,bU]<;>rfl) rfl rfl ?_;refine cn ?_;refine⟨g9 ftm df,rfl,hB.get,rfl,?_⟩;exact Ih Γ A B lo df ftm _ (by simp only[bU];exact e2) h z (by simp only[bU]<;>rfl) v bl zs hB hA hrow hn hlo hAl hBl
set_option maxHeartbeats 8000000 in
set_option maxRecDepth 20000 in
theorem JW(Γ:Glob)[Mute Γ](M A B I lo df c:Nat)(es:List (SV×SV×Nat))(ks:List bn)(hnd:(es.map λe=>e.2.2).Nodup)(hc:∀e∈es,e.2.2<c)(hl:ks.length<=1000000)(ftm:T SV)(e2:Fr.ev ⟨ftm,13,[]⟩ (.tmp 2)=.ptr A 0)(hAl:A<lo)(hBl:B<lo)(hIl:I<lo)(hMl:M<lo)(hAI:A≠I)(hBI:B≠I)(hMA:M≠A)(hMB:M≠B)(hMI:M≠I):∀(rem:Nat) (js:List Nat) (zs:List bn),zs.length+rem=ks.length->Left ktV es ks js zs->∀(tm:T SV) (h:Hp) (v:SV) (bl:Nat),
 Fr.ev ⟨tm,14,[]⟩ (.tmp 0)=.yield B->Fr.ev ⟨tm,14,[]⟩ (.tmp 5)=.ptr I 0->At h M (.map es c)->At h I (.mapIter (some M) c js c)->At h B (.loop (g9 ftm df))->At h A (.cells [v] 59)->RowIs h lo bl 9 1 v (zs.map ktE)->lo<=h.next->
 Runs Tryz.prog Γ (.code KZ none ⟨tm,14,[]⟩ h) λo=>∃tm' h' v0,o=⟨.exit 0,⟨tm',14,[]⟩,h',v0⟩/\∃(zs:List bn) (v':SV) (bl':Nat),zs.Perm ks/\At h' B (.loop (g9 ftm df))/\At h' A (.cells [v'] 59)/\RowIs h' lo bl' 9 1 v' (zs.map ktE)/\h.next<=h'.next/\∀b,b<lo->b≠A->b≠B->b≠I->h'.objs.get b=h.objs.get b:=by
 have fin:∀(js:List Nat) (zs:List bn),Left ktV es ks js zs->Ev.leftOf es js=[]->∀(tm:T SV) (h:Hp) (v:SV) (bl:Nat),Fr.ev ⟨tm,14,[]⟩ (.tmp 5)=.ptr I 0->At h M (.map es c)->At h I (.mapIter (some M) c js c)->At h B (.loop (g9 ftm df))->At h A (.cells [v] 59)->RowIs h lo bl 9 1 v (zs.map ktE)->
  Runs Tryz.prog Γ (.code KZ none ⟨tm,14,[]⟩ h) λo=>∃tm' h' v0,o=⟨.exit 0,⟨tm',14,[]⟩,h',v0⟩/\∃(zs:List bn) (v':SV) (bl':Nat),zs.Perm ks/\At h' B (.loop (g9 ftm df))/\At h' A (.cells [v'] 59)/\RowIs h' lo bl' 9 1 v' (zs.map ktE)/\h.next<=h'.next/\∀b,b<lo->b≠A->b≠B->b≠I->h'.objs.get b=h.objs.get b:=by
  intro js zs w hd tm h v bl e5 hM hI hB hA hrow;refine gg ?_;refine bJ (bC ?_);refine il (v:=.tuple [.lit (.bool false)]) (hp':=h) rfl rfl rfl (by simp only[effect,e5];exact tY hI.get hM.get hc hd) (av _) rfl rfl ?_;refine cK (v:=.lit (.bool false)) (fs:=[]) rfl (by simp only[quiet,bU]<;>rfl) rfl rfl ?_;refine cn ?_;refine bJ (eX false rfl (jS ?_));exact⟨_,_,_,rfl,zs,v,bl,w.done hd,hB,hA,hrow,av _,λ_ _ _ _ _=>rfl⟩
 intro rem
 induction rem with
 |zero=>
  intro js zs hz w tm h v bl e0 e5 hM hI hB hA hrow hlo;refine fin js zs w ?_ tm h v bl e5 hM hI hB hA hrow;exact Classical.byContradiction λhd=>by have:=w.more hd;omega
 |succ rem ih=>
  intro js zs hz w tm h v bl e0 e5 hM hI hB hA hrow hlo;by_cases hd:Ev.leftOf es js=[]
  .exact fin js zs w hd tm h v bl e5 hM hI hB hA hrow
  refine gg ?_;refine bJ (bC ?_);refine ya rfl rfl rfl (by simp only[effect,e5];exact uj hI.get hM.get hc hd) (λr hr=>by obtain⟨e,_,rfl⟩:=List.mem_map.1 hr;exact av _) rfl rfl ?_;intro r hr;obtain⟨⟨ek,ev,j⟩,he,rfl⟩:=List.mem_map.1 hr;obtain⟨z,hk,w2⟩:=w.step hnd he;have hk:ek=ktV z:=hk;subst hk;have hmem:(ktV z,ev,j)∈es:=(List.mem_filter.1 he).1;generalize hh1:h.upd I (.mapIter (some M) c (js++[j]) c)=h1;have hn1:h1.next=h.next:=by rw[<-hh1];rfl
  have hg1:∀b,b≠I->h1.objs.get b=h.objs.get b:=λb hb=>by rw[<-hh1];exact cl hb
  have hI1:At h1 I (.mapIter (some M) c (js++[j]) c):=⟨by rw[hn1];exact hI.lt,by rw[<-hh1];exact cA⟩;have hM1:At h1 M (.map es c):=⟨by rw[hn1];exact hM.lt,(hg1 M hMI).trans hM.get⟩;have hB1:At h1 B (.loop (g9 ftm df)):=⟨by rw[hn1];exact hB.lt,(hg1 B hBI).trans hB.get⟩;have hA1:At h1 A (.cells [v] 59):=⟨by rw[hn1];exact hA.lt,(hg1 A hAI).trans hA.get⟩;have hrow1:RowIs h1 lo bl 9 1 v (zs.map ktE):=hrow.kept bj λ_ h=>hg1 bl bj;have hent:kW h1 (.ptr I 0)=some (.tuple [ktV z,ev],h1):=yE hI1.get hM1.get hnd hmem;refine cK (v:=.lit (.bool true)) (fs:=[]) rfl (by simp only[quiet,bU]<;>rfl) rfl rfl ?_;refine cn ?_;refine bJ (eX true rfl (jQ ?_));refine d7 ?_;refine bJ (bC ?_);refine il (v:=.tuple [ktV z,ev]) (hp':=h1) rfl rfl rfl (by simp only[effect,bU,e5];exact congrArg Ev.val hent) (av _) rfl rfl ?_;refine cK (v:=ktV z) (fs:=[]) rfl (by simp only[quiet,bU]<;>rfl) rfl rfl ?_;refine cK (v:=ktV z) (fs:=[]) rfl (by simp only[quiet,bU]<;>rfl) rfl rfl ?_;refine cn ?_;refine bJ (bC ?_);refine cK (v:=.yield B) (fs:=[]) rfl (by simp only[quiet,bU,e0]<;>rfl) rfl rfl ?_;refine cK (v:=ktV z) (fs:=[]) rfl (by simp only[quiet,bU]<;>rfl) rfl rfl ?_;refine ul (b:=B) (args:=[ktV z]) rfl rfl rfl rfl rfl ?_;refine(GR Γ A B lo df ftm e2 h1 z v bl zs hB1 hA1 hrow1 bj bj hAl hBl).mono ?_;have hI2:=hI1;have hM2:=hM1;have hgH:∀b,b<lo->b≠I->h1.objs.get b=h.objs.get b:=λb hb h3=>hg1 b h3;rintro⟨ex,fr,h2,v2⟩ ⟨hv2,v',bl',hB2,hA2,hrow2,hn2,hold2⟩;have hv2:v2=.lit (.bool true):=hv2;subst hv2;have hn2:h1.next<=h2.next:=hn2;have hB2:At h2 B (.loop (g9 ftm df)):=hB2;have hA2:At h2 A (.cells [v'] 59):=hA2;have hrow2:RowIs h2 lo bl' 9 1 v' ((zs++[z]).map ktE):=hrow2;have hold2:∀b,b<lo->b≠A->b≠B->h2.objs.get b=h1.objs.get b:=hold2;have hI3:At h2 I (.mapIter (some M) c (js++[j]) c):=⟨aM hI2.lt hn2,(hold2 I hIl (Ne.symm hAI) (Ne.symm hBI)).trans hI2.get⟩;have hM3:At h2 M (.map es c):=⟨aM hM2.lt hn2,(hold2 M hMl hMA hMB).trans hM2.get⟩;refine cK (v:=.lit (.bool false)) (fs:=[]) rfl (by simp only[quiet,bU]<;>rfl) rfl rfl ?_;refine cn ?_;refine eX false rfl (jQ ?_);rw[show ∀fr hp v,lh 1 ⟨.normal,fr,hp,v⟩=⟨.normal,fr,hp,v⟩from λ_ _ _=>rfl];refine(ih (js++[j]) (zs++[z]) (by rw[ac,List.length_singleton];omega) w2 _ h2 v' bl' ?_ ?_ hM3 hI3 hB2 hA2 hrow2 bj).mono ?_
  .simp only[bU];exact e0
  .simp only[bU];exact e5
  .rintro o ⟨tm',h',v0,rfl,zs,v3,bl3,q1,q2,q3,q4,q5,q6⟩;exact⟨tm',h',v0,rfl,zs,v3,bl3,q1,q2,q3,q4,by omega,λb hb h1 h2 h3=>(q6 b hb h1 h2 h3).trans ((hold2 b hb h1 h2).trans (hgH b hb h3))⟩
set_option maxHeartbeats 8000000 in
set_option maxRecDepth 20000 in
theorem I1(Γ:Glob)[Mute Γ](M A B C df c:Nat)(es:List (SV×SV×Nat))(ks:List bn)(hnd:(es.map λe=>e.2.2).Nodup)(hc:∀e∈es,e.2.2<c)(hes:es.map (·.1)=ks.map ktV)(hl:ks.length<=1000000)(ftm:T SV)(e2:Fr.ev ⟨ftm,13,[]⟩ (.tmp 2)=.ptr A 0)(h:Hp)(hC:At h C (.cells [.map M] 104))(hM:At h M (.map es c))(hB:At h B (.loop (g9 ftm df)))(hA:At h A (.cells [.lit (.slice none 0 0)] 59)):
 Runs Tryz.prog Γ (.call 92 [.yield B,.ptr C 0] h) λr=>∃(zs:List bn) (v':SV) (bl':Nat),zs.Perm ks/\At r.hp B (.loop (g9 ftm df))/\At r.hp A (.cells [v'] 59)/\RowIs r.hp h.next bl' 9 1 v' (zs.map ktE)/\h.next<=r.hp.next/\∀b,b<h.next->b≠A->b≠B->r.hp.objs.get b=h.objs.get b:=by
 have hrange:jE Tryz.prog h 104 (.map M)=some (.ptr h.next 0,⟨h.objs.set h.next (.mapIter (some M) c [] c),h.next+1⟩):=by
  simp only[jE,show tyU Tryz.prog 104=some (.map 9 _)from rfl,hM.get];rfl
 generalize hh1:(⟨h.objs.set h.next (.mapIter (some M) c [] c),h.next+1⟩:Hp)=h1 at hrange;have hn1:h1.next=h.next+1:=by rw[<-hh1]
 have hg1:∀b,b≠h.next->h1.objs.get b=h.objs.get b:=λb hb=>by rw[<-hh1];exact cl hb
 have hI1:At h1 h.next (.mapIter (some M) c [] c):=⟨by omega,by rw[<-hh1];exact cA⟩;have k1:Kept h.next h h1:=⟨by omega,λb hb=>hg1 b bj⟩;have hMA:M≠A:=by
  rintro rfl;have:=hM.get.symm.trans hA.get;cases this
 have hMB:M≠B:=by
  rintro rfl;have:=hM.get.symm.trans hB.get;cases this
 have a1:=hA.lt;have a2:=hB.lt;have a3:=hM.lt;have le1:h.next<=h1.next:=by omega
 refine eA Tryz.func92 rfl ?_;refine bJ ?_;refine bC ?_;refine cK (v:=.map M) (fs:=[.cells C 0 [.map M]]) rfl (by simp only[quiet];exact gc rfl hC.get rfl) rfl rfl ?_;refine il (v:=.ptr h.next 0) (hp':=h1) rfl rfl rfl (congrArg Ev.val hrange) le1 rfl rfl ?_;refine cn ?_;refine d7 ((JW Γ M A B h.next (h.next+1) df c es ks hnd hc hl ftm e2 bj bj bj bj bj bj hMA hMB bj ks.length [] [] (aX _) (Left.start hes) _ h1 (.lit (.slice none 0 0)) 0 rfl rfl (hM.kept k1) hI1 (hB.kept k1) (hA.kept k1) (.inl ⟨rfl,rfl⟩) bj).mono ?_);rintro o ⟨tm',h',v0,rfl,zs,v3,bl3,q1,q2,q3,q4,q5,q6⟩;exact⟨_,rfl,zs,v3,bl3,q1,q2,q3,by
  rcases q4 with q4|⟨r1,r2,r3,r4⟩
  .exact .inl q4
  .exact .inr ⟨r1,by omega,r3,r4⟩,by show h.next<=h'.next;omega,λb hb h1 h2=>(q6 b bj h1 h2 bj).trans (hg1 b bj)⟩
set_option maxHeartbeats 8000000 in
set_option maxRecDepth 20000 in
def Hb(Γ:Glob)(C:Nat)(ks:List bn)(h:Hp):Prop:=∀(A B df:Nat) (ftm:T SV),Fr.ev ⟨ftm,13,[]⟩ (.tmp 2)=.ptr A 0->∀h2,Kept h.next h h2->At h2 B (.loop (g9 ftm df))->At h2 A (.cells [.lit (.slice none 0 0)] 59)->
    Runs Tryz.prog Γ (.call 92 [.yield B,.ptr C 0] h2) λr=>∃(zs:List bn) (v':SV) (bl':Nat),zs.Perm ks/\At r.hp B (.loop (g9 ftm df))/\At r.hp A (.cells [v'] 59)/\RowIs r.hp h2.next bl' 9 1 v' (zs.map ktE)/\h2.next<=r.hp.next/\∀b,b<h2.next->b≠A->b≠B->r.hp.objs.get b=h2.objs.get b
theorem Lj(Γ:Glob)[Mute Γ](M C c:Nat)(es:List (SV×SV×Nat))(ks:List bn)(hnd:(es.map λe=>e.2.2).Nodup)(hc:∀e∈es,e.2.2<c)(hes:es.map (·.1)=ks.map ktV)(hl:ks.length<=1000000)(h:Hp)(hC:At h C (.cells [.map M] 104))(hM:At h M (.map es c)):Hb Γ C ks h:=
 λA B df ftm e2 h2 k hB hA=>I1 Γ M A B C df c es ks hnd hc hes hl ftm e2 h2 (hC.kept k) (hM.kept k) hB hA
set_option maxHeartbeats 8000000 in
set_option maxRecDepth 20000 in
theorem MA(Γ:Glob)[Mute Γ](C:Nat)(h:Hp)(hC:At h C (.cells [.lit (.map none)] 104)):Hb Γ C [] h:=by
 intro A B df ftm e2 h2 k hB hA;have hC:=hC.kept k;have hrange:jE Tryz.prog h2 104 (.lit (.map none))=some (.ptr h2.next 0,⟨h2.objs.set h2.next (.mapIter none 0 [] 0),h2.next+1⟩):=rfl;generalize hh1:(⟨h2.objs.set h2.next (.mapIter none 0 [] 0),h2.next+1⟩:Hp)=h1 at hrange;have hn1:h1.next=h2.next+1:=by rw[<-hh1]
 have hg1:∀b,b≠h2.next->h1.objs.get b=h2.objs.get b:=λb hb=>by rw[<-hh1];exact cl hb
 have hI1:h1.objs.get h2.next=some (.mapIter none 0 [] 0):=by rw[<-hh1];exact cA
 have k1:Kept h2.next h2 h1:=⟨by omega,λb hb=>hg1 b bj⟩;have le1:h2.next<=h1.next:=by omega
 have hnext:kE h1 (.ptr h2.next 0) false=some [(.tuple [cP false],h1)]:=by simp only[kE,hI1]
 refine eA Tryz.func92 rfl ?_;refine bJ ?_;refine bC ?_;refine cK (v:=.lit (.map none)) (fs:=[.cells C 0 [.lit (.map none)]]) rfl (by simp only[quiet];exact gc rfl hC.get rfl) rfl rfl ?_;refine il (v:=.ptr h2.next 0) (hp':=h1) rfl rfl rfl (congrArg Ev.val hrange) le1 rfl rfl ?_;refine cn ?_;refine d7 ?_;refine gg ?_;refine bJ (bC ?_);refine il (v:=.tuple [.lit (.bool false)]) (hp':=h1) rfl rfl rfl hnext (av _) rfl rfl ?_;refine cK (v:=.lit (.bool false)) (fs:=[]) rfl (by simp only[quiet,bU]<;>rfl) rfl rfl ?_;refine cn ?_;refine bJ (eX false rfl (jS ?_));exact⟨_,rfl,[],.lit (.slice none 0 0),0,List.Perm.refl _,hB.kept k1,hA.kept k1,.inl ⟨rfl,rfl⟩,le1,λb hb _ _=>k1.old b hb⟩
set_option maxHeartbeats 8000000 in
set_option maxRecDepth 20000 in
theorem Lq(Γ:Glob)[Mute Γ](C:Nat)(ks:List bn)(h:Hp)(hK:Hb Γ C ks h):
 Runs Tryz.prog Γ (.call 139 [.lit (.slice none 0 0),.func (.func 92) [] [.ptr C 0]] h) λr=>∃(zs:List bn) (bl':Nat),zs.Perm ks/\RowIs r.hp h.next bl' 9 1 r.v (zs.map ktE)/\Kept h.next h r.hp:=by
 refine eA Tryz.func139 rfl ?_;refine bJ ?_;refine bC ?_;refine BN (cs:=[.lit (.slice none 0 0)]) rfl rfl rfl rfl rfl (λH1 g1 k1 n1=>?_);refine cK (v:=.lit (.slice none 0 0)) (fs:=[]) rfl rfl rfl rfl ?_;refine cn ?_;refine bJ (bJ ?_);refine bC ?_;refine cK (v:=.func (.func 92) [] [.ptr C 0]) (fs:=[]) rfl rfl rfl rfl ?_;refine cn ?_;refine d7 (mC (f:=92) (args:=[.yield (H1.next+1),.ptr C 0]) rfl ?_);generalize hftm:((((T.ofList [.lit (.slice none 0 0),.func (.func 92) [] [.ptr C 0]] 0 .leaf).set 2 (.ptr h.next 0)).set 4 (.lit (.slice none 0 0))).set 6 (.func (.func 92) [] [.ptr C 0]):T SV)=ftm;have e2:Fr.ev ⟨ftm,13,[]⟩ (.tmp 2)=.ptr h.next 0:=by rw[<-hftm];rfl
 generalize hh2:(⟨(H1.objs.set H1.next (.deferred true)).set (H1.next+1) (.loop (g9 ftm H1.next)),H1.next+2⟩:Hp)=h2;have hn2:h2.next=H1.next+2:=by rw[<-hh2]
 have hg2:∀b,b<H1.next->h2.objs.get b=H1.objs.get b:=λb hb=>by rw[<-hh2];exact(cl bj).trans (cl bj)
 have k2:Kept H1.next H1 h2:=⟨by omega,hg2⟩;have hB2:At h2 (H1.next+1) (.loop (g9 ftm H1.next)):=⟨by omega,by rw[<-hh2];exact cA⟩;have hD2:h2.objs.get H1.next=some (.deferred true):=by rw[<-hh2];exact(cl bj).trans cA
 have hA2:=g1.kept k2;have b1:=g1.lt;show Runs Tryz.prog Γ (.call 92 [.yield (H1.next+1),.ptr C 0] ⟨(H1.objs.set H1.next (.deferred true)).set (H1.next+1) (.loop (g9 ftm H1.next)),H1.next+2⟩) _;rw[hh2];refine(hK h.next (H1.next+1) H1.next ftm e2 h2 (k1.then k2) hB2 hA2).mono ?_;rintro⟨ex,fr,h3,v3⟩ ⟨zs,v',bl',q1,q2,q3,q4,q5,q6⟩;have q2:At h3 (H1.next+1) (.loop (g9 ftm H1.next)):=q2;have hA3:At h3 h.next (.cells [v'] 59):=q3;have q4:RowIs h3 h2.next bl' 9 1 v' (zs.map ktE):=q4;have q5:h2.next<=h3.next:=q5;have q6:∀b,b<h2.next->b≠h.next->b≠H1.next+1->h3.objs.get b=h2.objs.get b:=q6;refine⟨⟨.normal,⟨ftm,13,[H1.next]⟩,h3.upd (H1.next+1) (.loop {g9 ftm H1.next with state:=.exhausted}),.lit undef⟩,?_,?_⟩
 .simp only[gu,q2.get];rfl
 generalize hh4:h3.upd (H1.next+1) (.loop {g9 ftm H1.next with state:=.exhausted})=h4;have hn4:h4.next=h3.next:=by rw[<-hh4];rfl
 have hg4:∀b,b≠H1.next+1->h4.objs.get b=h3.objs.get b:=λb hb=>by rw[<-hh4];exact cl hb
 have hA4:At h4 h.next (.cells [v'] 59):=⟨by rw[hn4];exact hA3.lt,(hg4 h.next bj).trans hA3.get⟩;have hD4:h4.objs.get H1.next=some (.deferred true):=(hg4 _ bj).trans ((q6 _ bj bj bj).trans hD2);rw[show ∀fr hp v,lh 0 ⟨.normal,fr,hp,v⟩=⟨.normal,fr,hp,v⟩from λ_ _ _=>rfl];have e2m:Fr.ev ⟨ftm,13,[H1.next]⟩ (.tmp 2)=.ptr h.next 0:=e2;refine bJ ?_;refine bC ?_;refine cK (v:=v') (fs:=[.cells h.next 0 [v']]) rfl (by simp only[quiet,e2m];exact gc rfl hA4.get rfl) rfl rfl ?_;refine cK (v:=v') (fs:=[]) rfl (by simp only[quiet,bU]<;>rfl) rfl rfl ?_;refine cn ?_;refine iP ?_;refine⟨_,nG (t:=4) rfl hD4 (v:=v') (by simp only[bU]<;>rfl),zs,bl',q1,?_,?_,?_⟩
 .refine RowIs.less (lo:=h2.next) (RowIs.kept (h':=h4.upd H1.next (.deferred false)) q4 (by show h3.next<=h4.next;omega) λa1 a2=>?_) (by have:=k1.next;omega);exact(cl bj).trans (hg4 bl' bj)
 .exact(by show h.next<=h4.next;omega)
 .exact λb hb=>(cl bj).trans ((hg4 b bj).trans ((q6 b bj bj bj).trans ((hg2 b bj).trans (k1.old b hb))))
set_option maxHeartbeats 8000000 in
set_option maxRecDepth 20000 in
theorem A8(Γ:Glob)[Mute Γ](C:Nat)(ks:List bn)(h:Hp)(hK:Hb Γ C ks h):
 Runs Tryz.prog Γ (.call 90 [.func (.func 92) [] [.ptr C 0]] h) λr=>∃(zs:List bn) (bl':Nat),zs.Perm ks/\RowIs r.hp h.next bl' 9 1 r.v (zs.map ktE)/\Kept h.next h r.hp:=by
 refine eA Tryz.func90 rfl ?_;refine bJ ?_;refine bC ?_;refine cK (v:=.lit (.slice none 0 0)) (fs:=[]) rfl rfl rfl rfl ?_;refine cn ?_;refine bJ ?_;refine bC ?_;refine cK (v:=.func (.func 92) [] [.ptr C 0]) (fs:=[]) rfl rfl rfl rfl ?_;refine tt (f:=139) (args:=[.lit (.slice none 0 0),.func (.func 92) [] [.ptr C 0]]) rfl rfl rfl (gH Tryz.func139 rfl) rfl rfl ?_;refine(Lq Γ C ks h hK).mono ?_;rintro⟨ex,fr,H1,v⟩ ⟨zs,bl,hz,hrow,k1⟩;have k1:Kept h.next h H1:=k1;have hrow:RowIs H1 h.next bl 9 1 v (zs.map ktE):=hrow;refine cK (v:=v) (fs:=[]) rfl (by simp only[quiet,bU]<;>rfl) rfl rfl ?_;refine cn ?_;refine iP ?_;exact⟨_,rfl,zs,bl,hz,hrow,k1⟩
theorem rQ:∀zs:List bn,txs ((zs.map ktE).flatten)=some zs
 |[]=>rfl
 |z::zs=>by
  show(txs ((zs.map ktE).flatten)).map _=_;rw[rQ zs];rfl
theorem Ip{h h1:Hp}{bl:Nat}{v:SV}{ks zs:List bn}(hl:ks.length<=1000000)(hz:zs.Perm ks)(hs:gU leT zs=ks)(hrow:RowIs h1 h.next bl 9 1 v (zs.map ktE)):
 ∃H9 bl9,Ev.sortTW [v] h1=some [⟨.ret,⟨.leaf,0,[]⟩,H9,.lit (.tuple #[])⟩]/\RowIs H9 h.next bl9 9 1 v (ks.map ktE)/\Kept h.next h1 H9:=by
 rcases hrow with⟨rfl,hnil⟩|⟨rfl,r2,r3,r4⟩
 .obtain rfl:zs=[]:=List.map_eq_nil_iff.1 hnil;obtain rfl:ks=[]:=hz.nil_eq.symm;exact⟨h1,bl,rfl,.inl ⟨rfl,rfl⟩,Kept.refl _ _⟩
 .have hlen:(zs.map ktE).length=zs.length:=ao _;have hle:ks.length=zs.length:=hz.length_eq.symm;rw[hlen]at r4⊢;have hc:Nat.ble zs.length 1000000=true:=ai bj;refine⟨h1.upd bl (.row ((ks.map ktE).flatten) 9 zs.length bl 1),bl,?_,.inr ⟨by rw[ao,hle],r2,r3,?_⟩,⟨av _,λb hb=>cl bj⟩⟩
  .simp only[Ev.sortTW,Nat.beq_refl,Array.isEmpty_empty,aF,bf,tB,r4,hc,rQ,hs];rfl
  .rw[ao,hle];exact cA
set_option maxHeartbeats 8000000 in
set_option maxRecDepth 20000 in
theorem uh(Γ:Glob)[Mute Γ](C:Nat)(ks:List bn)(h:Hp)(hK:Hb Γ C ks h)(hl:ks.length<=1000000)(ha:∀zs:List bn,zs.Perm ks->gU leT zs=ks):
 Runs Tryz.prog Γ (.call 54 [.func (.func 92) [] [.ptr C 0]] h) λr=>∃bl',RowIs r.hp h.next bl' 9 1 r.v (ks.map ktE)/\Kept h.next h r.hp:=by
 refine eA Tryz.func54 rfl ?_;refine bJ ?_;refine bC ?_;refine cK (v:=.lit (.slice none 0 0)) (fs:=[]) rfl rfl rfl rfl ?_;refine cn ?_;refine bJ ?_;refine bC ?_;refine cK (v:=.func (.func 92) [] [.ptr C 0]) (fs:=[]) rfl rfl rfl rfl ?_;refine tt (f:=90) (args:=[.func (.func 92) [] [.ptr C 0]]) rfl rfl rfl (gH Tryz.func90 rfl) rfl rfl ?_;refine(A8 Γ C ks h hK).mono ?_;rintro⟨ex,fr,H1,v⟩ ⟨zs,bl,hz,hrow,k1⟩;have k1:Kept h.next h H1:=k1;obtain⟨H9,bl9,hsort,hrow9,k9⟩:=Ip hl hz (ha zs hz) hrow;refine cK (v:=v) (fs:=[]) rfl (by simp only[quiet,bU]<;>rfl) rfl rfl ?_;refine cn ?_;refine bJ ?_;refine bC ?_;refine cK (v:=v) (fs:=[]) rfl (by simp only[quiet,bU]<;>rfl) rfl rfl ?_;refine tt (f:=91) (args:=[v]) rfl rfl rfl (gH Tryz.func91 rfl) rfl rfl (lV (show theMem 91 [v] H1=_ from hsort) λo ho=>?_);obtain rfl:=List.mem_singleton.1 ho;refine cn ?_;refine bJ ?_;refine bC ?_;refine cK (v:=v) (fs:=[]) rfl (by simp only[quiet,bU]<;>rfl) rfl rfl ?_;refine cK (v:=v) (fs:=[]) rfl (by simp only[quiet,bU]<;>rfl) rfl rfl ?_;refine cn ?_;refine iP ?_;exact⟨_,rfl,bl9,hrow9,k1.trans k9⟩
abbrev kcV(z:C4):SV:=.agg [.lit (.int .i64 z.1),.lit (.int .i64 z.2.1),.lit (.int .i64 z.2.2.1),.lit (.int .i64 z.2.2.2)]
abbrev kcE(z:C4):List SV:=[.lit (.int .i64 z.1),.lit (.int .i64 z.2.1),.lit (.int .i64 z.2.2.1),.lit (.int .i64 z.2.2.2)]
noncomputable def Kp:Code:=(Bk (Dq (QX (Dq (fg Tryz.f127)))))
noncomputable def Ot:Code:=Rk Kp
noncomputable def HS:Code:=O9 Kp
noncomputable def gX(ftm:T SV)(df:Nat):ALoop:=⟨.ready,none,0,ftm,13,#[7],Ot,HS,df⟩
noncomputable def K4:Code:=(Bk (Dq (fg Tryz.f81)))
set_option maxRecDepth 10000 in
theorem PV:tyU Tryz.prog 122=some (.slice 45):=rfl
set_option maxRecDepth 10000 in
theorem IZ:∃i z,Tryz.prog.info? 45=some i/\i.zero=some z/\i.size=4/\i.bytes<=1000/\(SV.cells (.lit z)).length=4:=⟨_,_,rfl,rfl,rfl,by decide,rfl⟩
theorem Da{Γ:Glob}{h:Hp}{lo bl nb:Nat}{v:SV}{zs:List (C4)}{z:C4}(hr:RowIs h lo bl 45 4 v (zs.map kcE))(hn:zs.length<=1000000)(hlo:lo<=h.next)(hnb:h.objs.get nb=some (.cells (kcE z) 45)):
 ∃v' h',cQ Tryz.prog Γ h [122,122] v (.slice nb 0 1 1)=some (v',h')/\RowIs h' lo h.next 45 4 v' ((zs++[z]).map kcE)/\h'.next=h.next+1/\∀b,b<h.next->(v=.lit (.slice none 0 0)\/b≠bl)->h'.objs.get b=h.objs.get b:=by
 obtain⟨i,y,hi,hz,hsz,hby,hzs⟩:=IZ;have:=ry (Γ:=Γ) PV hi hz hby bj (by rw[hsz];exact hzs) (by rw[hsz];exact hr) (λx hx=>by obtain⟨y,_,rfl⟩:=List.mem_map.1 hx;rw[hsz];rfl) (c:=kcE z) (nb:=nb) (by rw[hsz];rfl) rfl (by rw[ao];omega) hlo hnb;rw[hsz,show zs.map kcE++[kcE z]=(zs++[z]).map kcE by rw[aH];rfl]at this;exact this
set_option maxHeartbeats 8000000 in
set_option maxRecDepth 20000 in
theorem J5(Γ:Glob)[Mute Γ](A B lo df p:Nat)(ftm tm:T SV)(e2:Fr.ev ⟨tm,13,[]⟩ (.tmp 2)=.ptr A 0)(h:Hp)(z:C4)(e5:Fr.ev ⟨tm,13,[]⟩ (.tmp 5)=.ptr p 0)(v:SV)(bl:Nat)(zs:List (C4))
 (hB:At h B (.loop (gX ftm df))) (hA:At h A (.cells [v] 122)) (hrow:RowIs h lo bl 45 4 v (zs.map kcE)) (hn:zs.length<=1000000) (hlo:lo<=h.next) (hAl:A<lo) (hBl:B<lo) (hp:At h p (.cells (kcE z) 45)) (hpl:lo<=p):
 Runs Tryz.prog Γ (.code HS (some B) ⟨tm,13,[]⟩ (h.upd B (.loop {gX ftm df with state:=.busy}))) λo2=>∃r,eG B o2=some [r]/\(r.v=.lit (.bool true)/\∃v' bl',At r.hp B (.loop (gX ftm df))/\At r.hp A (.cells [v'] 122)/\RowIs r.hp lo bl' 45 4 v' ((zs++[z]).map kcE)/\h.next<=r.hp.next/\∀b,b<lo->b≠A->b≠B->r.hp.objs.get b=h.objs.get b):=by
 have hAB:A≠B:=by
  rintro rfl;have:=hA.get.symm.trans hB.get;cases this
 generalize hh2:h.upd B (.loop {gX ftm df with state:=.busy})=h2;have hn2:h2.next=h.next:=by rw[<-hh2];rfl
 have hg2:∀b,b≠B->h2.objs.get b=h.objs.get b:=λb hb=>by rw[<-hh2];exact cl hb
 have hA2:At h2 A (.cells [v] 122):=⟨by rw[hn2];exact hA.lt,(hg2 A hAB).trans hA.get⟩;have hB2:h2.objs.get B=some (.loop {gX ftm df with state:=.busy}):=by rw[<-hh2];exact cA
 have hrow2:RowIs h2 lo bl 45 4 v (zs.map kcE):=hrow.kept bj λ_ h=>hg2 bl bj;have hp2:h2.objs.get p=some (.cells (kcE z) 45):=(hg2 p bj).trans hp.get;generalize hh3:(⟨h2.objs.set h2.next (.cells (kcE z) 45),h2.next+1⟩:Hp)=h3;have hn3:h3.next=h2.next+1:=by rw[<-hh3]
 have hg3:∀b,b≠h2.next->h3.objs.get b=h2.objs.get b:=λb hb=>by rw[<-hh3];exact cl hb
 have hnb3:h3.objs.get h2.next=some (.cells (kcE z) 45):=by rw[<-hh3];exact cA
 have hrow3:RowIs h3 lo bl 45 4 v (zs.map kcE):=hrow2.kept bj λh _=>hg3 bl bj;obtain⟨v',h4,happ,hrow4,hn4,hg4⟩:=Da (Γ:=Γ) hrow3 hn bj hnb3;have hold4:∀b,b<lo->h4.objs.get b=h3.objs.get b:=λb hb=>by
  by_cases hvn:v=.lit (.slice none 0 0)
  .exact hg4 b bj (.inl hvn)
  .refine hg4 b bj (.inr ?_);rcases hrow with⟨e,_⟩|⟨_,e,_⟩
   .exact absurd e hvn
   .omega
 have hA4:h4.objs.get A=some (.cells [v] 122):=(hold4 A hAl).trans ((hg3 A bj).trans hA2.get);have hB4:h4.objs.get B=some (.loop {gX ftm df with state:=.busy}):=(hold4 B hBl).trans ((hg3 B bj).trans hB2);have h1v:SV.one v'=true:=hrow4.same.1;have hlt4:h.next<=h4.next:=by omega
 have hA_:A<h4.next:=by omega
 have hB_:B<h4.next:=by omega
 have hBA:B≠A:=λe=>hAB e.symm;have hle3:h2.next<=h3.next:=by omega
 have hle4:h3.next<=h4.next:=by omega
 have hbs:ge Tryz.prog h2 122 1 [(0,kcV z)]=some (.slice h2.next 0 1 1,h3):=by
  rw[<-hh3];rfl
 refine d7 ?_;refine bC ?_;refine cK (v:=v) (fs:=[.cells A 0 [v]]) rfl (by simp only[quiet,e2];exact gc rfl hA2.get rfl) rfl rfl ?_;refine cK (v:=kcV z) (fs:=[.cells p 0 (kcE z)]) rfl (by simp only[quiet,bU,e5];exact wD rfl rfl hp2 rfl) rfl rfl ?_;refine il (v:=.slice h2.next 0 1 1) (hp':=h3) rfl rfl rfl (by simp only[effect,bU,ax,aY,Array.toList];exact congrArg Ev.val hbs) hle3 rfl rfl ?_;refine il (v:=v') (hp':=h4) rfl rfl rfl (by simp only[effect,bU];exact congrArg Ev.val happ) hle4 rfl rfl ?_;refine Ae (v:=.lit undef) (hp':=⟨h4.objs.set A (.cells [v'] 122),h4.next⟩) rfl rfl rfl (sX (v:=v') (w:=v) rfl (by simp only[bU];exact e2) (by simp only[bU]<;>rfl) h1v hA4) (av _) rfl ?_;refine cn ?_;rw[show ∀fr hp v,lh 1 ⟨.normal,fr,hp,v⟩=⟨.normal,fr,hp,v⟩from λ_ _ _=>rfl];have hB5:(⟨h4.objs.set A (.cells [v'] 122),h4.next⟩:Hp).objs.get B=some (.loop {gX ftm df with state:=.busy}):=(cl hBA).trans hB4;refine⟨_,kF hB5,rfl,v',h3.next,⟨hB_,cA⟩,⟨hA_,(cl hAB).trans cA⟩,?_,hlt4,λb hb h1 h2=>?_⟩
 .refine hrow4.kept (av _) λ_ h=>?_;have:lo<=h3.next:=by omega
  exact(cl bj).trans (cl bj)
 .exact(cl h2).trans ((cl h1).trans ((hold4 b hb).trans ((hg3 b bj).trans (hg2 b h2))))
set_option maxHeartbeats 8000000 in
set_option maxRecDepth 20000 in
theorem Hg(Γ:Glob)[Mute Γ](A B lo df:Nat)(ftm:T SV)(e2:Fr.ev ⟨ftm,13,[]⟩ (.tmp 2)=.ptr A 0)(h:Hp)(z:C4)(v:SV)(bl:Nat)(zs:List (C4))
 (hB:At h B (.loop (gX ftm df))) (hA:At h A (.cells [v] 122)) (hrow:RowIs h lo bl 45 4 v (zs.map kcE)) (hn:zs.length<=1000000) (hlo:lo<=h.next) (hAl:A<lo) (hBl:B<lo):
 Runs Tryz.prog Γ (.round B [kcV z] h) λr=>r.v=.lit (.bool true)/\∃v' bl',At r.hp B (.loop (gX ftm df))/\At r.hp A (.cells [v'] 122)/\RowIs r.hp lo bl' 45 4 v' ((zs++[z]).map kcE)/\h.next<=r.hp.next/\∀b,b<lo->b≠A->b≠B->r.hp.objs.get b=h.objs.get b:=by
 refine rg (fr:=⟨ftm.set 7 (kcV z),13,[]⟩) hB.get rfl rfl ?_;refine bC ?_;refine y3 (cs:=kcE z) rfl rfl rfl rfl rfl rfl rfl rfl (by simp only[bU]<;>rfl) rfl rfl rfl rfl (λH g1 k1 n1=>?_);refine cn ?_;refine⟨gX ftm df,rfl,(hB.kept k1).get,rfl,?_⟩;have k1n:=k1.next;refine(J5 Γ A B lo df h.next ftm _ (by simp only[bU];exact e2) H z (by simp only[bU]<;>rfl) v bl zs (hB.kept k1) (hA.kept k1) (hrow.kept k1.next λq _=>k1.old bl q) hn bj hAl hBl g1 hlo).mono ?_;rintro o2 ⟨r,h1,h2,v',bl',q1,q2,q3,q4,q5⟩;exact⟨r,h1,h2,v',bl',q1,q2,q3,by omega,λb hb x y=>(q5 b hb x y).trans (k1.old b bj)⟩
set_option maxHeartbeats 8000000 in
set_option maxRecDepth 20000 in
theorem IT(Γ:Glob)[Mute Γ](M A B I lo df c:Nat)(es:List (SV×SV×Nat))(ks:List (C4))(hnd:(es.map λe=>e.2.2).Nodup)(hc:∀e∈es,e.2.2<c)(hl:ks.length<=1000000)(ftm:T SV)(e2:Fr.ev ⟨ftm,13,[]⟩ (.tmp 2)=.ptr A 0)(hAl:A<lo)(hBl:B<lo)(hIl:I<lo)(hMl:M<lo)(hAI:A≠I)(hBI:B≠I)(hMA:M≠A)(hMB:M≠B)(hMI:M≠I):∀(rem:Nat) (js:List Nat) (zs:List (C4)),zs.length+rem=ks.length->Left kcV es ks js zs->∀(tm:T SV) (h:Hp) (v:SV) (bl:Nat),
 Fr.ev ⟨tm,14,[]⟩ (.tmp 0)=.yield B->Fr.ev ⟨tm,14,[]⟩ (.tmp 5)=.ptr I 0->At h M (.map es c)->At h I (.mapIter (some M) c js c)->At h B (.loop (gX ftm df))->At h A (.cells [v] 122)->RowIs h lo bl 45 4 v (zs.map kcE)->lo<=h.next->
 Runs Tryz.prog Γ (.code K4 none ⟨tm,14,[]⟩ h) λo=>∃tm' h' v0,o=⟨.exit 0,⟨tm',14,[]⟩,h',v0⟩/\∃(zs:List (C4)) (v':SV) (bl':Nat),zs.Perm ks/\At h' B (.loop (gX ftm df))/\At h' A (.cells [v'] 122)/\RowIs h' lo bl' 45 4 v' (zs.map kcE)/\h.next<=h'.next/\∀b,b<lo->b≠A->b≠B->b≠I->h'.objs.get b=h.objs.get b:=by
 have fin:∀(js:List Nat) (zs:List (C4)),Left kcV es ks js zs->Ev.leftOf es js=[]->∀(tm:T SV) (h:Hp) (v:SV) (bl:Nat),Fr.ev ⟨tm,14,[]⟩ (.tmp 5)=.ptr I 0->At h M (.map es c)->At h I (.mapIter (some M) c js c)->At h B (.loop (gX ftm df))->At h A (.cells [v] 122)->RowIs h lo bl 45 4 v (zs.map kcE)->
  Runs Tryz.prog Γ (.code K4 none ⟨tm,14,[]⟩ h) λo=>∃tm' h' v0,o=⟨.exit 0,⟨tm',14,[]⟩,h',v0⟩/\∃(zs:List (C4)) (v':SV) (bl':Nat),zs.Perm ks/\At h' B (.loop (gX ftm df))/\At h' A (.cells [v'] 122)/\RowIs h' lo bl' 45 4 v' (zs.map kcE)/\h.next<=h'.next/\∀b,b<lo->b≠A->b≠B->b≠I->h'.objs.get b=h.objs.get b:=by
  intro js zs w hd tm h v bl e5 hM hI hB hA hrow;refine gg ?_;refine bJ (bC ?_);refine il (v:=.tuple [.lit (.bool false)]) (hp':=h) rfl rfl rfl (by simp only[effect,e5];exact tY hI.get hM.get hc hd) (av _) rfl rfl ?_;refine cK (v:=.lit (.bool false)) (fs:=[]) rfl (by simp only[quiet,bU]<;>rfl) rfl rfl ?_;refine cn ?_;refine bJ (eX false rfl (jS ?_));exact⟨_,_,_,rfl,zs,v,bl,w.done hd,hB,hA,hrow,av _,λ_ _ _ _ _=>rfl⟩
 intro rem
 induction rem with
 |zero=>
  intro js zs hz w tm h v bl e0 e5 hM hI hB hA hrow hlo;refine fin js zs w ?_ tm h v bl e5 hM hI hB hA hrow;exact Classical.byContradiction λhd=>by have:=w.more hd;omega
 |succ rem ih=>
  intro js zs hz w tm h v bl e0 e5 hM hI hB hA hrow hlo;by_cases hd:Ev.leftOf es js=[]
  .exact fin js zs w hd tm h v bl e5 hM hI hB hA hrow
  refine gg ?_;refine bJ (bC ?_);refine ya rfl rfl rfl (by simp only[effect,e5];exact uj hI.get hM.get hc hd) (λr hr=>by obtain⟨e,_,rfl⟩:=List.mem_map.1 hr;exact av _) rfl rfl ?_;intro r hr;obtain⟨⟨ek,ev,j⟩,he,rfl⟩:=List.mem_map.1 hr;obtain⟨z,hk,w2⟩:=w.step hnd he;have hk:ek=kcV z:=hk;subst hk;have hmem:(kcV z,ev,j)∈es:=(List.mem_filter.1 he).1;generalize hh1:h.upd I (.mapIter (some M) c (js++[j]) c)=h1;have hn1:h1.next=h.next:=by rw[<-hh1];rfl
  have hg1:∀b,b≠I->h1.objs.get b=h.objs.get b:=λb hb=>by rw[<-hh1];exact cl hb
  have hI1:At h1 I (.mapIter (some M) c (js++[j]) c):=⟨by rw[hn1];exact hI.lt,by rw[<-hh1];exact cA⟩;have hM1:At h1 M (.map es c):=⟨by rw[hn1];exact hM.lt,(hg1 M hMI).trans hM.get⟩;have hB1:At h1 B (.loop (gX ftm df)):=⟨by rw[hn1];exact hB.lt,(hg1 B hBI).trans hB.get⟩;have hA1:At h1 A (.cells [v] 122):=⟨by rw[hn1];exact hA.lt,(hg1 A hAI).trans hA.get⟩;have hrow1:RowIs h1 lo bl 45 4 v (zs.map kcE):=hrow.kept bj λ_ h=>hg1 bl bj;have hent:kW h1 (.ptr I 0)=some (.tuple [kcV z,ev],h1):=yE hI1.get hM1.get hnd hmem;refine cK (v:=.lit (.bool true)) (fs:=[]) rfl (by simp only[quiet,bU]<;>rfl) rfl rfl ?_;refine cn ?_;refine bJ (eX true rfl (jQ ?_));refine d7 ?_;refine bJ (bC ?_);refine il (v:=.tuple [kcV z,ev]) (hp':=h1) rfl rfl rfl (by simp only[effect,bU,e5];exact congrArg Ev.val hent) (av _) rfl rfl ?_;refine cK (v:=kcV z) (fs:=[]) rfl (by simp only[quiet,bU]<;>rfl) rfl rfl ?_;refine y3 (cs:=kcE z) rfl rfl rfl rfl rfl rfl rfl rfl (by simp only[bU]<;>rfl) rfl rfl rfl rfl (λH g1 k1 n1=>?_);refine cn ?_;refine bJ (bC ?_);refine cK (v:=.yield B) (fs:=[]) rfl (by simp only[quiet,bU,e0]<;>rfl) rfl rfl ?_;refine cK (v:=kcV z) (fs:=[.cells h1.next 0 (kcE z)]) rfl (by simp only[quiet,bU];exact wD rfl rfl g1.get rfl) rfl rfl ?_;refine ul (b:=B) (args:=[kcV z]) rfl rfl rfl rfl rfl ?_;have k1n:=k1.next;refine(Hg Γ A B lo df ftm e2 H z v bl zs (hB1.kept k1) (hA1.kept k1) (hrow1.kept k1.next λq _=>k1.old bl q) bj bj hAl hBl).mono ?_;have hI2:=hI1.kept k1;have hM2:=hM1.kept k1;have hgH:∀b,b<lo->b≠I->H.objs.get b=h.objs.get b:=λb hb h3=>(k1.old b bj).trans (hg1 b h3);rintro⟨ex,fr,h2,v2⟩ ⟨hv2,v',bl',hB2,hA2,hrow2,hn2,hold2⟩;have hv2:v2=.lit (.bool true):=hv2;subst hv2;have hn2:H.next<=h2.next:=hn2;have hB2:At h2 B (.loop (gX ftm df)):=hB2;have hA2:At h2 A (.cells [v'] 122):=hA2;have hrow2:RowIs h2 lo bl' 45 4 v' ((zs++[z]).map kcE):=hrow2;have hold2:∀b,b<lo->b≠A->b≠B->h2.objs.get b=H.objs.get b:=hold2;have hI3:At h2 I (.mapIter (some M) c (js++[j]) c):=⟨aM hI2.lt hn2,(hold2 I hIl (Ne.symm hAI) (Ne.symm hBI)).trans hI2.get⟩;have hM3:At h2 M (.map es c):=⟨aM hM2.lt hn2,(hold2 M hMl hMA hMB).trans hM2.get⟩;refine cK (v:=.lit (.bool false)) (fs:=[]) rfl (by simp only[quiet,bU]<;>rfl) rfl rfl ?_;refine cn ?_;refine eX false rfl (jQ ?_);rw[show ∀fr hp v,lh 1 ⟨.normal,fr,hp,v⟩=⟨.normal,fr,hp,v⟩from λ_ _ _=>rfl];refine(ih (js++[j]) (zs++[z]) (by rw[ac,List.length_singleton];omega) w2 _ h2 v' bl' ?_ ?_ hM3 hI3 hB2 hA2 hrow2 bj).mono ?_
  .simp only[bU];exact e0
  .simp only[bU];exact e5
  .rintro o ⟨tm',h',v0,rfl,zs,v3,bl3,q1,q2,q3,q4,q5,q6⟩;exact⟨tm',h',v0,rfl,zs,v3,bl3,q1,q2,q3,q4,by omega,λb hb h1 h2 h3=>(q6 b hb h1 h2 h3).trans ((hold2 b hb h1 h2).trans (hgH b hb h3))⟩
set_option maxHeartbeats 8000000 in
set_option maxRecDepth 20000 in
theorem Kd(Γ:Glob)[Mute Γ](M A B C df c:Nat)(es:List (SV×SV×Nat))(ks:List (C4))(hnd:(es.map λe=>e.2.2).Nodup)(hc:∀e∈es,e.2.2<c)(hes:es.map (·.1)=ks.map kcV)(hl:ks.length<=1000000)(ftm:T SV)(e2:Fr.ev ⟨ftm,13,[]⟩ (.tmp 2)=.ptr A 0)(h:Hp)(hC:At h C (.cells [.map M] 101))(hM:At h M (.map es c))(hB:At h B (.loop (gX ftm df)))(hA:At h A (.cells [.lit (.slice none 0 0)] 122)):
 Runs Tryz.prog Γ (.call 81 [.yield B,.ptr C 0] h) λr=>∃(zs:List (C4)) (v':SV) (bl':Nat),zs.Perm ks/\At r.hp B (.loop (gX ftm df))/\At r.hp A (.cells [v'] 122)/\RowIs r.hp h.next bl' 45 4 v' (zs.map kcE)/\h.next<=r.hp.next/\∀b,b<h.next->b≠A->b≠B->r.hp.objs.get b=h.objs.get b:=by
 have hrange:jE Tryz.prog h 101 (.map M)=some (.ptr h.next 0,⟨h.objs.set h.next (.mapIter (some M) c [] c),h.next+1⟩):=by
  simp only[jE,show tyU Tryz.prog 101=some (.map 45 _)from rfl,hM.get];rfl
 generalize hh1:(⟨h.objs.set h.next (.mapIter (some M) c [] c),h.next+1⟩:Hp)=h1 at hrange;have hn1:h1.next=h.next+1:=by rw[<-hh1]
 have hg1:∀b,b≠h.next->h1.objs.get b=h.objs.get b:=λb hb=>by rw[<-hh1];exact cl hb
 have hI1:At h1 h.next (.mapIter (some M) c [] c):=⟨by omega,by rw[<-hh1];exact cA⟩;have k1:Kept h.next h h1:=⟨by omega,λb hb=>hg1 b bj⟩;have hMA:M≠A:=by
  rintro rfl;have:=hM.get.symm.trans hA.get;cases this
 have hMB:M≠B:=by
  rintro rfl;have:=hM.get.symm.trans hB.get;cases this
 have a1:=hA.lt;have a2:=hB.lt;have a3:=hM.lt;have le1:h.next<=h1.next:=by omega
 refine eA Tryz.func81 rfl ?_;refine bJ ?_;refine bC ?_;refine cK (v:=.map M) (fs:=[.cells C 0 [.map M]]) rfl (by simp only[quiet];exact gc rfl hC.get rfl) rfl rfl ?_;refine il (v:=.ptr h.next 0) (hp':=h1) rfl rfl rfl (congrArg Ev.val hrange) le1 rfl rfl ?_;refine cn ?_;refine d7 ((IT Γ M A B h.next (h.next+1) df c es ks hnd hc hl ftm e2 bj bj bj bj bj bj hMA hMB bj ks.length [] [] (aX _) (Left.start hes) _ h1 (.lit (.slice none 0 0)) 0 rfl rfl (hM.kept k1) hI1 (hB.kept k1) (hA.kept k1) (.inl ⟨rfl,rfl⟩) bj).mono ?_);rintro o ⟨tm',h',v0,rfl,zs,v3,bl3,q1,q2,q3,q4,q5,q6⟩;exact⟨_,rfl,zs,v3,bl3,q1,q2,q3,by
  rcases q4 with q4|⟨r1,r2,r3,r4⟩
  .exact .inl q4
  .exact .inr ⟨r1,by omega,r3,r4⟩,by show h.next<=h'.next;omega,λb hb h1 h2=>(q6 b bj h1 h2 bj).trans (hg1 b bj)⟩
set_option maxHeartbeats 8000000 in
set_option maxRecDepth 20000 in
def Hd(Γ:Glob)(C:Nat)(ks:List (C4))(h:Hp):Prop:=∀(A B df:Nat) (ftm:T SV),Fr.ev ⟨ftm,13,[]⟩ (.tmp 2)=.ptr A 0->∀h2,Kept h.next h h2->At h2 B (.loop (gX ftm df))->At h2 A (.cells [.lit (.slice none 0 0)] 122)->
    Runs Tryz.prog Γ (.call 81 [.yield B,.ptr C 0] h2) λr=>∃(zs:List (C4)) (v':SV) (bl':Nat),zs.Perm ks/\At r.hp B (.loop (gX ftm df))/\At r.hp A (.cells [v'] 122)/\RowIs r.hp h2.next bl' 45 4 v' (zs.map kcE)/\h2.next<=r.hp.next/\∀b,b<h2.next->b≠A->b≠B->r.hp.objs.get b=h2.objs.get b
theorem LA(Γ:Glob)[Mute Γ](M C c:Nat)(es:List (SV×SV×Nat))(ks:List (C4))(hnd:(es.map λe=>e.2.2).Nodup)(hc:∀e∈es,e.2.2<c)(hes:es.map (·.1)=ks.map kcV)(hl:ks.length<=1000000)(h:Hp)(hC:At h C (.cells [.map M] 101))(hM:At h M (.map es c)):Hd Γ C ks h:=
 λA B df ftm e2 h2 k hB hA=>Kd Γ M A B C df c es ks hnd hc hes hl ftm e2 h2 (hC.kept k) (hM.kept k) hB hA
set_option maxHeartbeats 8000000 in
set_option maxRecDepth 20000 in
theorem MJ(Γ:Glob)[Mute Γ](C:Nat)(h:Hp)(hC:At h C (.cells [.lit (.map none)] 101)):Hd Γ C [] h:=by
 intro A B df ftm e2 h2 k hB hA;have hC:=hC.kept k;have hrange:jE Tryz.prog h2 101 (.lit (.map none))=some (.ptr h2.next 0,⟨h2.objs.set h2.next (.mapIter none 0 [] 0),h2.next+1⟩):=rfl;generalize hh1:(⟨h2.objs.set h2.next (.mapIter none 0 [] 0),h2.next+1⟩:Hp)=h1 at hrange;have hn1:h1.next=h2.next+1:=by rw[<-hh1]
 have hg1:∀b,b≠h2.next->h1.objs.get b=h2.objs.get b:=λb hb=>by rw[<-hh1];exact cl hb
 have hI1:h1.objs.get h2.next=some (.mapIter none 0 [] 0):=by rw[<-hh1];exact cA
 have k1:Kept h2.next h2 h1:=⟨by omega,λb hb=>hg1 b bj⟩;have le1:h2.next<=h1.next:=by omega
 have hnext:kE h1 (.ptr h2.next 0) false=some [(.tuple [cP false],h1)]:=by simp only[kE,hI1]
 refine eA Tryz.func81 rfl ?_;refine bJ ?_;refine bC ?_;refine cK (v:=.lit (.map none)) (fs:=[.cells C 0 [.lit (.map none)]]) rfl (by simp only[quiet];exact gc rfl hC.get rfl) rfl rfl ?_;refine il (v:=.ptr h2.next 0) (hp':=h1) rfl rfl rfl (congrArg Ev.val hrange) le1 rfl rfl ?_;refine cn ?_;refine d7 ?_;refine gg ?_;refine bJ (bC ?_);refine il (v:=.tuple [.lit (.bool false)]) (hp':=h1) rfl rfl rfl hnext (av _) rfl rfl ?_;refine cK (v:=.lit (.bool false)) (fs:=[]) rfl (by simp only[quiet,bU]<;>rfl) rfl rfl ?_;refine cn ?_;refine bJ (eX false rfl (jS ?_));exact⟨_,rfl,[],.lit (.slice none 0 0),0,List.Perm.refl _,hB.kept k1,hA.kept k1,.inl ⟨rfl,rfl⟩,le1,λb hb _ _=>k1.old b hb⟩
set_option maxHeartbeats 8000000 in
set_option maxRecDepth 20000 in
theorem Lt(Γ:Glob)[Mute Γ](C:Nat)(ks:List (C4))(h:Hp)(hK:Hd Γ C ks h):
 Runs Tryz.prog Γ (.call 127 [.lit (.slice none 0 0),.func (.func 81) [] [.ptr C 0]] h) λr=>∃(zs:List (C4)) (bl':Nat),zs.Perm ks/\RowIs r.hp h.next bl' 45 4 r.v (zs.map kcE)/\Kept h.next h r.hp:=by
 refine eA Tryz.func127 rfl ?_;refine bJ ?_;refine bC ?_;refine BN (cs:=[.lit (.slice none 0 0)]) rfl rfl rfl rfl rfl (λH1 g1 k1 n1=>?_);refine cK (v:=.lit (.slice none 0 0)) (fs:=[]) rfl rfl rfl rfl ?_;refine cn ?_;refine bJ (bJ ?_);refine bC ?_;refine cK (v:=.func (.func 81) [] [.ptr C 0]) (fs:=[]) rfl rfl rfl rfl ?_;refine cn ?_;refine d7 (mC (f:=81) (args:=[.yield (H1.next+1),.ptr C 0]) rfl ?_);generalize hftm:((((T.ofList [.lit (.slice none 0 0),.func (.func 81) [] [.ptr C 0]] 0 .leaf).set 2 (.ptr h.next 0)).set 4 (.lit (.slice none 0 0))).set 6 (.func (.func 81) [] [.ptr C 0]):T SV)=ftm;have e2:Fr.ev ⟨ftm,13,[]⟩ (.tmp 2)=.ptr h.next 0:=by rw[<-hftm];rfl
 generalize hh2:(⟨(H1.objs.set H1.next (.deferred true)).set (H1.next+1) (.loop (gX ftm H1.next)),H1.next+2⟩:Hp)=h2;have hn2:h2.next=H1.next+2:=by rw[<-hh2]
 have hg2:∀b,b<H1.next->h2.objs.get b=H1.objs.get b:=λb hb=>by rw[<-hh2];exact(cl bj).trans (cl bj)
 have k2:Kept H1.next H1 h2:=⟨by omega,hg2⟩;have hB2:At h2 (H1.next+1) (.loop (gX ftm H1.next)):=⟨by omega,by rw[<-hh2];exact cA⟩;have hD2:h2.objs.get H1.next=some (.deferred true):=by rw[<-hh2];exact(cl bj).trans cA
 have hA2:=g1.kept k2;have b1:=g1.lt;show Runs Tryz.prog Γ (.call 81 [.yield (H1.next+1),.ptr C 0] ⟨(H1.objs.set H1.next (.deferred true)).set (H1.next+1) (.loop (gX ftm H1.next)),H1.next+2⟩) _;rw[hh2];refine(hK h.next (H1.next+1) H1.next ftm e2 h2 (k1.then k2) hB2 hA2).mono ?_;rintro⟨ex,fr,h3,v3⟩ ⟨zs,v',bl',q1,q2,q3,q4,q5,q6⟩;have q2:At h3 (H1.next+1) (.loop (gX ftm H1.next)):=q2;have hA3:At h3 h.next (.cells [v'] 122):=q3;have q4:RowIs h3 h2.next bl' 45 4 v' (zs.map kcE):=q4;have q5:h2.next<=h3.next:=q5;have q6:∀b,b<h2.next->b≠h.next->b≠H1.next+1->h3.objs.get b=h2.objs.get b:=q6;refine⟨⟨.normal,⟨ftm,13,[H1.next]⟩,h3.upd (H1.next+1) (.loop {gX ftm H1.next with state:=.exhausted}),.lit undef⟩,?_,?_⟩
 .simp only[gu,q2.get];rfl
 generalize hh4:h3.upd (H1.next+1) (.loop {gX ftm H1.next with state:=.exhausted})=h4;have hn4:h4.next=h3.next:=by rw[<-hh4];rfl
 have hg4:∀b,b≠H1.next+1->h4.objs.get b=h3.objs.get b:=λb hb=>by rw[<-hh4];exact cl hb
 have hA4:At h4 h.next (.cells [v'] 122):=⟨by rw[hn4];exact hA3.lt,(hg4 h.next bj).trans hA3.get⟩;have hD4:h4.objs.get H1.next=some (.deferred true):=(hg4 _ bj).trans ((q6 _ bj bj bj).trans hD2);rw[show ∀fr hp v,lh 0 ⟨.normal,fr,hp,v⟩=⟨.normal,fr,hp,v⟩from λ_ _ _=>rfl];have e2m:Fr.ev ⟨ftm,13,[H1.next]⟩ (.tmp 2)=.ptr h.next 0:=e2;refine bJ ?_;refine bC ?_;refine cK (v:=v') (fs:=[.cells h.next 0 [v']]) rfl (by simp only[quiet,e2m];exact gc rfl hA4.get rfl) rfl rfl ?_;refine cK (v:=v') (fs:=[]) rfl (by simp only[quiet,bU]<;>rfl) rfl rfl ?_;refine cn ?_;refine iP ?_;refine⟨_,nG (t:=4) rfl hD4 (v:=v') (by simp only[bU]<;>rfl),zs,bl',q1,?_,?_,?_⟩
 .refine RowIs.less (lo:=h2.next) (RowIs.kept (h':=h4.upd H1.next (.deferred false)) q4 (by show h3.next<=h4.next;omega) λa1 a2=>?_) (by have:=k1.next;omega);exact(cl bj).trans (hg4 bl' bj)
 .exact(by show h.next<=h4.next;omega)
 .exact λb hb=>(cl bj).trans ((hg4 b bj).trans ((q6 b bj bj bj).trans ((hg2 b bj).trans (k1.old b hb))))
set_option maxHeartbeats 8000000 in
set_option maxRecDepth 20000 in
theorem A7(Γ:Glob)[Mute Γ](C:Nat)(ks:List (C4))(h:Hp)(hK:Hd Γ C ks h):
 Runs Tryz.prog Γ (.call 79 [.func (.func 81) [] [.ptr C 0]] h) λr=>∃(zs:List (C4)) (bl':Nat),zs.Perm ks/\RowIs r.hp h.next bl' 45 4 r.v (zs.map kcE)/\Kept h.next h r.hp:=by
 refine eA Tryz.func79 rfl ?_;refine bJ ?_;refine bC ?_;refine cK (v:=.lit (.slice none 0 0)) (fs:=[]) rfl rfl rfl rfl ?_;refine cn ?_;refine bJ ?_;refine bC ?_;refine cK (v:=.func (.func 81) [] [.ptr C 0]) (fs:=[]) rfl rfl rfl rfl ?_;refine tt (f:=127) (args:=[.lit (.slice none 0 0),.func (.func 81) [] [.ptr C 0]]) rfl rfl rfl (gH Tryz.func127 rfl) rfl rfl ?_;refine(Lt Γ C ks h hK).mono ?_;rintro⟨ex,fr,H1,v⟩ ⟨zs,bl,hz,hrow,k1⟩;have k1:Kept h.next h H1:=k1;have hrow:RowIs H1 h.next bl 45 4 v (zs.map kcE):=hrow;refine cK (v:=v) (fs:=[]) rfl (by simp only[quiet,bU]<;>rfl) rfl rfl ?_;refine cn ?_;refine iP ?_;exact⟨_,rfl,zs,bl,hz,hrow,k1⟩
theorem IR{h h1:Hp}{bl:Nat}{v:SV}{ks zs:List (C4)}(hl:ks.length<=1000000)(hz:zs.Perm ks)(hs:gU leC zs=ks)(hrow:RowIs h1 h.next bl 45 4 v (zs.map kcE)):
 ∃H9 bl9,Ev.sortCW [v,.lit (.func (.func 48) #[] #[])] h1=some [⟨.ret,⟨.leaf,0,[]⟩,H9,.lit (.tuple #[])⟩]/\RowIs H9 h.next bl9 45 4 v (ks.map kcE)/\Kept h.next h1 H9:=by
 rcases hrow with⟨rfl,hnil⟩|⟨rfl,r2,r3,r4⟩
 .obtain rfl:zs=[]:=List.map_eq_nil_iff.1 hnil;obtain rfl:ks=[]:=hz.nil_eq.symm;exact⟨h1,bl,rfl,.inl ⟨rfl,rfl⟩,Kept.refl _ _⟩
 .have hlen:(zs.map kcE).length=zs.length:=ao _;have hle:ks.length=zs.length:=hz.length_eq.symm;rw[hlen]at r4⊢;have hc:Nat.ble zs.length 1000000=true:=ai bj;refine⟨h1.upd bl (.row ((ks.map kcE).flatten) 45 zs.length bl 4),bl,?_,.inr ⟨by rw[ao,hle],r2,r3,?_⟩,⟨av _,λb hb=>cl bj⟩⟩
  .simp only[Ev.sortCW,Nat.beq_refl,Array.isEmpty_empty,aF,bf,tB,r4,hc,Cm,hs];rfl
  .rw[ao,hle];exact cA
set_option maxHeartbeats 8000000 in
set_option maxRecDepth 20000 in
theorem tc(Γ:Glob)[Mute Γ](C:Nat)(ks:List (C4))(h:Hp)(hK:Hd Γ C ks h)(hl:ks.length<=1000000)(ha:∀zs:List (C4),zs.Perm ks->gU leC zs=ks):
 Runs Tryz.prog Γ (.call 46 [.func (.func 81) [] [.ptr C 0],.lit (.func (.func 48) #[] #[])] h) λr=>∃bl',RowIs r.hp h.next bl' 45 4 r.v (ks.map kcE)/\Kept h.next h r.hp:=by
 refine eA Tryz.func46 rfl ?_;refine bJ ?_;refine bC ?_;refine cK (v:=.lit (.slice none 0 0)) (fs:=[]) rfl rfl rfl rfl ?_;refine cn ?_;refine bJ ?_;refine bC ?_;refine cK (v:=.func (.func 81) [] [.ptr C 0]) (fs:=[]) rfl rfl rfl rfl ?_;refine tt (f:=79) (args:=[.func (.func 81) [] [.ptr C 0]]) rfl rfl rfl (gH Tryz.func79 rfl) rfl rfl ?_;refine(A7 Γ C ks h hK).mono ?_;rintro⟨ex,fr,H1,v⟩ ⟨zs,bl,hz,hrow,k1⟩;have k1:Kept h.next h H1:=k1;obtain⟨H9,bl9,hsort,hrow9,k9⟩:=IR hl hz (ha zs hz) hrow;refine cK (v:=v) (fs:=[]) rfl (by simp only[quiet,bU]<;>rfl) rfl rfl ?_;refine cn ?_;refine bJ ?_;refine bC ?_;refine cK (v:=v) (fs:=[]) rfl (by simp only[quiet,bU]<;>rfl) rfl rfl ?_;refine cK (v:=.lit (.func (.func 48) #[] #[])) (fs:=[]) rfl (by simp only[quiet,bU]<;>rfl) rfl rfl ?_;refine tt (f:=80) (args:=[v,.lit (.func (.func 48) #[] #[])]) rfl rfl rfl (gH Tryz.func80 rfl) rfl rfl (lV (show theMem 80 [v,.lit (.func (.func 48) #[] #[])] H1=_ from hsort) λo ho=>?_);obtain rfl:=List.mem_singleton.1 ho;refine cn ?_;refine bJ ?_;refine bC ?_;refine cK (v:=v) (fs:=[]) rfl (by simp only[quiet,bU]<;>rfl) rfl rfl ?_;refine cK (v:=v) (fs:=[]) rfl (by simp only[quiet,bU]<;>rfl) rfl rfl ?_;refine cn ?_;refine iP ?_;exact⟨_,rfl,bl9,hrow9,k1.trans k9⟩
end Go.Proofs.YtbhokokpplmigaaGreatDoor.fr
