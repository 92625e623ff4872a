/-
  A part of the proof of FileReads; no condition.
-/
import Derived.Test.YtbhokokpplmigaaGreatDoorEvGC
import Derived.Test.YtbhokokpplmigaaGreatDoorFrGE
import Derived.Test.YtbhokokpplmigaaGreatDoorFrGB
import Derived.Shelf.Sort.Plain
import Derived.Shelf.Slices.In.SortNone
import Derived.Shelf.SlSortCmp.WholeK
import Derived.Shelf.SlSortCmp.NoneTotal
import Derived.Sort.AssemblyPlain
import Derived.WalkKit
import Derived.KernelRfl
set_option linter.all false
namespace Go.Proofs.YtbhokokpplmigaaGreatDoor.fr
open Go Go.RowKit Go.Lib Go.Sort Go.Proofs.YtbhokokpplmigaaGreatDoor.Ev
theorem Bp(x y:C4):ltOf cfC x y=decide (lt4 x y):=by
 unfold ltOf;rcases Np x y with⟨h,e⟩|⟨h,e⟩|⟨rfl,e⟩
 .rw[e,bd h];rfl
 .rw[e,bc λh2=>np _ (rK h h2)];rfl
 .rw[e,bc (np x)];rfl
theorem Rd:SWO (ltOf cfC)where
 irrefl x:=by rw[Bp];exact bc (np x)
 trans x y z h1 h2:=by
  rw[Bp,ba]at*;exact rK h1 h2
 ntrans x y z h1 h2:=by
  rw[Bp,decide_eq_false_iff_not]at*;exact gP.1 (Ah z y x (gP.2 h2) (gP.2 h1))
def lA(l:List C4):Array C4:=pdq (ltOf cfC) l.toArray 0 l.toArray.size (Lib.bitLen l.toArray.size) true true
theorem oM(l:List C4):PermIn 0 l.toArray.size l.toArray (lA l)/\SortedIn (ltOf cfC) 0 l.toArray.size (lA l):=
 pdq_sorts (ltOf cfC) Rd l.toArray 0 l.toArray.size (Lib.bitLen l.toArray.size) true true (Nat.zero_le _) (av _) (Or.inl rfl)
theorem od(l:List C4):(lA l).size=l.length:=by rw[(oM l).1.1];simp
theorem Db(l:List C4):((lA l).toList).Perm l:=by
 obtain⟨h1,_,h3⟩:=(oM l).1;have e1:(lA l).extract 0 l.toArray.size=lA l:=by rw[<-h1];exact Array.extract_size
 have e2:l.toArray.extract 0 l.toArray.size=l.toArray:=Array.extract_size;rw[e1,e2]at h3;exact h3
theorem Fx(l:List C4):((lA l).toList).Pairwise λx y=>leC x y=true:=by
 rw[List.pairwise_iff_getElem];intro i j hi hj hij;have hs:=od l;have hj':j<l.toArray.size:=by simpa[hs]using hj
 have h:=(oM l).2 i j (Nat.zero_le _) hij hj';rw[Bp,decide_eq_false_iff_not]at h;have g:∀k (hk:k<(lA l).toList.length),(lA l)[k]! =(lA l).toList[k]:=λk hk=>by
  rw[getElem!_pos (lA l) k (by simpa using hk)];simp
 rw[g i hi,g j hj]at h;exact gP.2 h
theorem BX(l:List C4):(lA l).toList=gU leC l:=(nc CW Ah yJ (Db l) (Fx l)).symm
theorem HU(l:List bn):(l.mergeSort λx y=>decide (x<=y))=gU leT l:=
 (nc Bx F2 zk (List.mergeSort_perm ..) ((List.pairwise_mergeSort (λa b c=>by simpa using List.le_trans) (λa b=>by simpa using List.le_total a b) l).imp λh=>iE.2 (by simpa using h))).symm
section
variable {α:Type}[Inhabited α]{enc:α->Value}{w:World}{blk:Nat}{e:TypeId}{fr:Nat×Nat}{ex:List Value}
theorem MC(zs:List α)(hw:w.heap[blk]? =some (.cells ((zs.map enc)++ex).toArray e fr))(hfr:frOk fr (zs.length+ex.length)):Holds enc w blk 0 zs.toArray:=by
 intro j hj;have hj':j<zs.length:=by simpa using hj
 constructor
 .simp only[World.cell?,hw];simp only[Option.isSome_none,aA,if_false,aX];rw[aP,aU (by simpa using hj'),aV,aB hj'];simp[hj']
 .simp only[World.frozen?,hw];have:=hfr.at (0+j) bj
  simpa using this
theorem sN(ds d':List α)(hs:d'.length=ds.length)(hw:w.heap[blk]? =some (.cells ((ds.map enc)++ex).toArray e fr))(n:Nat)(os:Array Obj):
 Below (ef w blk (.cells ((d'.map enc)++ex).toArray e fr)).heap.size (ef w blk (.cells ((d'.map enc)++ex).toArray e fr)) (grow (putRow enc (Sort.ahead w n) blk 0 d'.toArray) os):=by
 have hblk:blk<w.heap.size:=(Array.getElem?_eq_some_iff.1 hw).1;have hsz:(ef w blk (.cells ((d'.map enc)++ex).toArray e fr)).heap.size=w.heap.size:=by simp[ef]
 have hput:putCells enc 0 d'.toArray ((ds.map enc)++ex).toArray=((d'.map enc)++ex).toArray:=by
  apply Array.ext_getElem?;intro j;unfold putCells;rw[Array.getElem?_mapIdx,aP,aP];by_cases hj:j<d'.length
  .have this:j<((ds.map enc)++ex).length:=by rw[ac,ao];omega
   rw[aU (l₁:=d'.map enc) (by rw[ao];exact hj),aV,aB hj,aB this,af,af];simp[hj]
  .rw[List.getElem?_append_right (l₁:=d'.map enc) (by rw[ao];omega),List.getElem?_append_right (by rw[ao];omega),ao,ao,hs];cases ex[j-ds.length]? with
   |none=>rfl
   |some x=>simp[hj]
 refine⟨rfl,rfl,rfl,?_,λj hj=>?_⟩
 .rw[hsz,Go.Sort.size_grow,size_putRow];exact Nat.le_add_right _ _
 .rw[hsz]at hj;show((putRow enc (Sort.ahead w n) blk 0 d'.toArray).heap++os)[j]? =_;have hp:(putRow enc (Sort.ahead w n) blk 0 d'.toArray).heap=w.heap.modify blk (onCells (putCells enc 0 d'.toArray)):=rfl;rw[Array.getElem?_append_left (by rw[hp];simpa using hj),hp,Array.getElem?_modify];simp only[ef];by_cases hjb:blk=j
  .subst hjb;rw[bi rfl,hw,af,Array.getElem?_setIfInBounds];simp only[if_true,hblk];simp only[onCells,hput]
  .rw[bh hjb,Array.getElem?_setIfInBounds,bh hjb]
end
abbrev txL(z:bn):List SV:=[txV z]
theorem HJ:∀{l:List SV} {zs:List bn},txs l=some zs->l=(zs.map txL).flatten
 |[],zs,h=>by
  obtain rfl:=ab h;rfl
 |x::l,zs,h=>by
  unfold txs at h;split at h
  .rename_i e;cases e
  .rename_i s r e;obtain⟨ws,h1,rfl⟩:=aa.1 h;obtain⟨rfl,rfl⟩:=List.cons.inj e;rw[HJ h1];rfl
  .cases h
theorem rq(θ:Ev.Ren):∀zs:List bn,concL θ ((zs.map txL).flatten)=zs.map encStr
 |[]=>rfl
 |z::zs=>by
  show Value.string ⟨⟨z⟩⟩::concL θ ((zs.map txL).flatten)=_;rw[rq θ zs];rfl
theorem CX(K:Nat->Prop):∀zs:List bn,SV.okL K ((zs.map txL).flatten)
 |[]=>trivial
 |_::zs=>⟨trivial,CX K zs⟩
theorem pN:∀zs:List bn,((zs.map txL).flatten).length=zs.length
 |[]=>rfl
 |z::zs=>by
  show((zs.map txL).flatten).length+1=_;rw[pN zs];rfl
theorem yp{α:Type}{un:List SV->Option (List α)}{enc:α->List SV}{le:α->α->Bool}{e size:Nat}{v:SV}{hp:Hp}{outs:List Out}(h:tB un enc le e size v hp=some outs):
 (v=.lit (.slice none 0 0)/\outs=[⟨.ret,⟨.leaf,0,[]⟩,hp,.lit (.tuple #[])⟩])\/∃b cv l zs,v=.row b 0 zs.length zs.length cv/\hp.objs.get b=some (.row l e zs.length cv size)/\un l=some zs/\zs.length<=1000000/\outs=[⟨.ret,⟨.leaf,0,[]⟩,hp.upd b (.row (((gU le zs).map enc).flatten) e zs.length cv size),.lit (.tuple #[])⟩]:=by
 unfold tB at h;split at h
 .exact .inl ⟨rfl,(ab h).symm⟩
 .rename_i b n n' cv;split at h
  .rename_i l e' k cv' size' hb;cases hc:(Nat.beq n' n&&(Nat.beq k n&&(Nat.beq cv' cv&&(Nat.beq e' e&&(Nat.beq size' size&&Nat.ble n 1000000)))))with
   |false=>rw[hc]at h;cases h
   |true=>
    rw[hc,bf]at h;simp only[a8]at hc;obtain⟨c1,c2,c3,c4,c5,c6⟩:=hc;obtain rfl:=aj c1;obtain rfl:=aj c2;obtain rfl:=aj c3;obtain rfl:=aj c4;obtain rfl:=aj c5;split at h
    .rename_i zs hz;cases hd:Nat.beq zs.length k with
     |false=>rw[hd]at h;cases h
     |true=>
      rw[hd,bf]at h;obtain rfl:=aj hd;exact .inr ⟨b,cv',l,zs,rfl,hb,hz,aG c6,(ab h).symm⟩
    .cases h
  .cases h
 .cases h
def c4V(z:C4):List Value:=[.int .i64 z.1,.int .i64 z.2.1,.int .i64 z.2.2.1,.int .i64 z.2.2.2]
theorem nH(θ:Ev.Ren):∀zs:List C4,concL θ ((zs.map c4C).flatten)=(zs.map c4V).flatten
 |[]=>rfl
 |z::zs=>by rw[ax,aZ,eO,nH θ zs,ax,aZ];rfl
theorem Gs(K:Nat->Prop):∀zs:List C4,SV.okL K ((zs.map c4C).flatten)
 |[]=>trivial
 |_::zs=>⟨trivial,trivial,trivial,trivial,Gs K zs⟩
theorem nh(z:C4):(c4V z).length=4:=rfl
theorem JY(z:C4):∀v∈c4V z,v.oneCell'=true:=by
 have h:(c4V z).all (λv=>v.oneCell')=true:=rfl;exact λv hv=>aE.1 h v hv
theorem Ja(blk off size:Nat)(w:World):CmpLays Tryz.prog 48 #[] c4V 4 cfC blk off size w:=
 λ_ _ _ _ x y=>xB x.1 x.2.1 x.2.2.1 x.2.2.2 y.1 y.2.1 y.2.2.1 y.2.2.2 _
section
variable {Γ:Env}{X:Nat->Prop}{w0:World}{θ:Ev.Ren}{K:Nat->Prop}{hp:Hp}{w:World}
theorem Io{args:List SV}{outs:List Out}(h:sortTW args hp=some outs)(hr:Rep Γ X w0 θ K hp w):CallsIn Fence.wide 0 Tryz.prog 91 (concL θ args).toArray w (CPost Γ X w0 θ K hp.next outs):=by
 unfold sortTW at h;split at h
 .rename_i v;rcases yp h with⟨rfl,rfl⟩|⟨b,cv,l,zs,rfl,hb,hz,hn,rfl⟩
  .refine callsIn_wide.2 ((Any.slices_Sort_string_none wp none 0 w).mono ?_);rintro e w' ⟨rfl,rfl⟩;exact⟨_,aQ _,θ,K,Grow.refl _ _ _,rfl,trivial,hr⟩
  .obtain rfl:=HJ hz;obtain⟨_,_,hok,ob,hw,fr,ex,rfl,hfr,hcap⟩:=hr.obj b _ hb;rw[rq]at hw;rw[pN]at hfr hcap;have hH:Holds encStr w (θ.blk b) 0 zs.toArray:=MC zs hw hfr;have hblk:=(Array.getElem?_eq_some_iff.1 hw).1;refine callsIn_wide.2 ((Any.slices_Sort_string wp (θ.blk b) 0 (zs.length+θ.cap cv) zs w hH hblk bj).mono ?_);rintro e w' ⟨rfl,n,os,rfl⟩;rw[HU];have hls:=Ew (le:=leT) zs;refine⟨_,aQ _,θ,K,Grow.refl _ _ _,rfl,trivial,?_⟩;generalize gU leT zs=ss at hls;refine(hr.turn (o':=.row ((ss.map txL).flatten) 9 zs.length cv 1) (ob':=.cells ((ss.map encStr)++ex).toArray 9 fr) hb ⟨CX K _,hok.2⟩ ⟨fr,ex,?_,?_,?_⟩).behind (sN zs ss hls hw n os)
   .rw[rq]
   .rw[pN,hls];exact hfr
   .rw[pN,hls];exact hcap
 .cases h
theorem JZ{args:List SV}{outs:List Out}(h:sortCW args hp=some outs)(hr:Rep Γ X w0 θ K hp w):CallsIn Fence.wide 0 Tryz.prog 80 (concL θ args).toArray w (CPost Γ X w0 θ K hp.next outs):=by
 unfold sortCW at h;split at h
 .rename_i v g a b;cases hc:(Nat.beq g 48&&(a.isEmpty&&b.isEmpty))with
  |false=>rw[hc]at h;cases h
  |true=>
   rw[hc,bf]at h;simp only[a8]at hc;obtain⟨c1,c2,c3⟩:=hc;obtain rfl:=aj c1;obtain rfl:a=#[]:=Array.isEmpty_iff.1 c2;obtain rfl:b=#[]:=Array.isEmpty_iff.1 c3;rcases yp h with⟨rfl,rfl⟩|⟨b,cv,l,zs,rfl,hb,hz,hn,rfl⟩
   .refine callsIn_wide.2 ((AnyF.slices_SortFunc_none Kw none 0 _ w).mono ?_);rintro e w' ⟨rfl,rfl⟩;exact⟨_,aQ _,θ,K,Grow.refl _ _ _,rfl,trivial,hr⟩
   .obtain rfl:=Cy (av _) hz;obtain⟨_,_,hok,ob,hw,fr,ex,rfl,hfr,hcap⟩:=hr.obj b _ hb;rw[nH]at hw;have hlen:((zs.map c4C).flatten).length=((zs.map c4V).flatten).length:=by rw[<-nH θ,bH]
    rw[hlen]at hfr hcap;have hH:HoldsK c4V 4 w (θ.blk b) 0 zs.toArray:=D7 nh (by decide) zs hw hfr;have hblk:=(Array.getElem?_eq_some_iff.1 hw).1;have hcall:=AnyQ.slices_SortFunc_eq Kw 4 Tryz.isAgg45 Tryz.sizeOf45 c4V nh JY cfC Rd 48 #[] (θ.blk b) 0 (zs.length+θ.cap cv) zs.toArray w (enters_of Tryz.func48 bm rfl) (Ja (θ.blk b) 0 zs.toArray.size w) hH hblk (by simp;omega);rw[show zs.toArray.size=zs.length by simp]at hcall;refine callsIn_wide.2 (hcall.mono ?_);rintro e w' ⟨rfl,n,os,rfl⟩;have hp4:pdq (ltOf cfC) zs.toArray 0 zs.length (Lib.bitLen zs.length) true true=lA zs:=by unfold lA;rw[show zs.toArray.size=zs.length by simp]
    rw[hp4];have hls:(((lA zs).toList.map c4V).flatten).length=((zs.map c4V).flatten).length:=by
     rw[gd c4V nh,gd c4V nh,Array.length_toList,od]
    refine⟨_,aQ _,θ,K,Grow.refl _ _ _,rfl,trivial,?_⟩;have h2:(((gU leC zs).map c4C).flatten).length=((zs.map c4V).flatten).length:=by rw[<-hls,<-bH θ,nH,BX]
    refine(hr.turn (o':=.row (((gU leC zs).map c4C).flatten) 45 zs.length cv 4) (ob':=.cells (((lA zs).toList.map c4V).flatten++ex).toArray 45 fr) hb ⟨Gs K _,hok.2⟩ ⟨fr,ex,?_,?_,?_⟩).behind (vC nh (by decide) zs (lA zs) (od zs) hw n os)
    .rw[nH,BX]
    .rw[h2];exact hfr
    .rw[h2];exact hcap
 .cases h
end
end Go.Proofs.YtbhokokpplmigaaGreatDoor.fr
