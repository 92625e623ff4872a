/-
  A part of the proof of FileReads; no condition.
-/
import Derived.Test.YtbhokokpplmigaaGreatDoorRows
import Derived.Test.YtbhokokpplmigaaGreatDoorFrGH
import Derived.WalkKit
import Derived.ProofKit
import Derived.OpenShut
import Derived.ChangeMaps5
import Derived.Shelf.Vars
import Derived.Lib.LaidTab
import Derived.Deep.DeepHandedRow
set_option linter.all false
namespace Go.Proofs.YtbhokokpplmigaaGreatDoor.fr
open Go.ChangeShapes Go.WideShapes Go.ChangeAt Go.RowKit
theorem own:ownKnob Tryz.prog.godebug=none:=by kernel_rfl
theorem laidOut:laidOutB Tryz.prog=true:=by kernel_rfl
theorem Dp:Tryz.prog.readableRec 9=true/\9<Tryz.prog.types.size:=⟨by kernel_rfl,of_decide_eq_true (by kernel_rfl)⟩
theorem Sj:Tryz.prog.globalNamed "counterpane/value.faultTexts" =some 1:=by kernel_rfl
theorem HT:(Tryz.prog.globals[1]?).map (·.type)=some 248:=by kernel_rfl
theorem EO:Tryz.prog.cellsOf 248=10:=by kernel_rfl
theorem HK:Tryz.prog.cellsOf 9=1:=by kernel_rfl
theorem HZ:(Tryz.prog.globals[2]?).map (·.type)=some 298:=by kernel_rfl
theorem Hf:Tryz.prog.cellsOf 298=20:=by kernel_rfl
theorem Fj:Tryz.prog.cellsOf 263=1:=by kernel_rfl
theorem met{W:World}(h:laidMetH Tryz.prog Rows.fileReadsRow.laid W):laidMet Tryz.prog Rows.fileReadsRow.laid W:=by
 unfold laidMetH at h;rw[show(Rows.fileReadsRow.laid.filter λx=>x.2.handleName?.isSome)=[] by kernel_rfl]at h;exact h
theorem table{W:World}(h:laidMetH Tryz.prog Rows.fileReadsRow.laid W):Ev.globMet pm W:=
 Ev.strTab (name:= "counterpane/value.faultTexts") (zs:=HW) (met h) (List.mem_cons_of_mem _ (List.mem_cons_of_mem _ (List.mem_cons_of_mem _ (List.mem_cons_of_mem _ (List.mem_cons_of_mem _ (List.mem_cons_of_mem _ (List.mem_cons_self ..))))))) Sj HT Tryz.underlying248 Tryz.underlying9 HK EO
theorem JV:(Rows.laid_internal_strconv_uint64pow10:DataW Unit)=Lib.tabData .u64 Lib.pow10Tab:=by kernel_rfl
theorem Lx{W:World}(h:laidMetH Tryz.prog Rows.fileReadsRow.laid W):n9 W:=by
 obtain⟨ps,hv,_⟩:=met h;obtain⟨g,ty,cs,fuel,p,h1,h2,h3,h4⟩:=Ev.laid_at hv ("internal/strconv.uint64pow10",Rows.laid_internal_strconv_uint64pow10) (List.mem_cons_of_mem _ (List.mem_cons_of_mem _ (List.mem_cons_self ..)));rw[JV]at h4;obtain rfl:=Option.some.inj (PE.symm.trans h1);obtain rfl:=Option.some.inj (HZ.symm.trans h2);unfold n9 Lib.TabIs;rw[h3,<-Lib.cells_of_tab Tryz.underlying298 Tryz.underlying263 Fj Hf h4]
theorem G6{W:World}(h:W.ShapedOpen Tryz.prog):oI W:=
 cell_of_shapedOpen_int (g:=0) (t:=3) (zero:=#[.int .i64 0]) h (of_decide_eq_true (by kernel_rfl)) (by kernel_rfl) rfl (by kernel_rfl) (by kernel_rfl) Tryz.underlying3
theorem xi{enc:TypeId×Value->Unit}{P:Program}{w:World}{base:Nat}{sp:Nat->Bool}{fuel:Nat}{t:TypeId}{ms:Array (String×TypeId)}{cs:List Value}{nm:String}{d:DataW Unit}{p:List MemPlace}
 (ht:P.underlying t=some (.interface ms)) (h:DataW.trod enc P w base sp false fuel t cs=some (.iface nm d,p)):∃u v,cs=[.iface u v]:=by
 cases fuel with
 |zero=>simp[DataW.trod]at h
 |succ fuel=>
  rcases cs with _|⟨c,_|⟨c2,cs⟩⟩
  .simp[DataW.trod,ht]at h
  .cases c<;>simp[DataW.trod,ht]at h
   exact⟨_,_,rfl⟩
  .cases c<;>simp[DataW.trod,ht]at h
theorem KN{W:World}{g:Nat}{name:String}{nm:String}{d:DataW Unit}(hL:laidMet Tryz.prog Rows.fileReadsRow.laid W)(hx:(name,DataW.iface nm d)∈(Rows.fileReadsRow.laid:List (String×DataW Unit)))
 (hg:Tryz.prog.globalNamed name=some g) (hty:(Tryz.prog.globals[g]?).map (·.type)=some 61):hasErr g W:=by
 obtain⟨ps,hv,_⟩:=hL;obtain⟨g',t',cs,fuel,p,h1,h2,h3,h4⟩:=Ev.laid_at hv _ hx;obtain rfl:=Option.some.inj (hg.symm.trans h1);obtain rfl:=Option.some.inj (hty.symm.trans h2);obtain⟨u,v,hc⟩:=xi Tryz.underlying61 h4;unfold World.var? at h3;rw[h1,Option.bind_some]at h3;refine⟨.iface u v,?_,.inr ⟨_,_,rfl⟩⟩;cases hh:W.heap[g]? with
 |none=>rw[hh]at h3;cases h3
 |some o=>
  rw[hh]at h3;cases o with
  |cells c e f=>
   obtain rfl:=Option.some.inj h3;unfold World.cell?;rw[hh];show c[0]? =_;rw[<-Array.getElem?_toList,hc];rfl
  |_=>cases h3
theorem SP:Tryz.prog.globalNamed "strconv.ErrSyntax" =some 5:=by kernel_rfl
theorem Ft:(Tryz.prog.globals[5]?).map (·.type)=some 61:=by kernel_rfl
theorem RL:Tryz.prog.globalNamed "strconv.ErrRange" =some 6:=by kernel_rfl
theorem Hq:(Tryz.prog.globals[6]?).map (·.type)=some 61:=by kernel_rfl
theorem MR{W:World}(h:laidMetH Tryz.prog Rows.fileReadsRow.laid W):hasErr 5 W:=
 KN (name:= "strconv.ErrSyntax") (met h) (List.mem_cons_of_mem _ (List.mem_cons_of_mem _ (List.mem_cons_of_mem _ (List.mem_cons_of_mem _ (List.mem_cons_of_mem _ (List.mem_cons_self ..)))))) SP Ft
theorem NH{W:World}(h:laidMetH Tryz.prog Rows.fileReadsRow.laid W):hasErr 6 W:=
 KN (name:= "strconv.ErrRange") (met h) (List.mem_cons_of_mem _ (List.mem_cons_of_mem _ (List.mem_cons_of_mem _ (List.mem_cons_of_mem _ (List.mem_cons_self ..))))) RL Hq
theorem D5{W:World}(h:W.ShapedOpen Tryz.prog):Lie W:=by
 obtain⟨o,_,ho,_⟩:=h.2 9 (of_decide_eq_true (by kernel_rfl)) (of_decide_eq_true (by kernel_rfl));have:=(Array.getElem?_eq_some_iff.1 ho).1;exact⟨by show 0<_;omega,by show 2<_;omega,by show 5<_;omega,by show 6<_;omega⟩
set_option maxRecDepth 100000 in
theorem H8(H:Type)(enc:TypeId×Value->H)(W:World)(base:Nat)(args:Array Value)(ds gs:List (DataW H))(before:List MemPlace)
 (hval:∀(j:Nat) t v,Tryz.f3.params[j]? =some t->args[j]? =some v->Value.okWide Tryz.prog W .any base t v)
 (hW:DataW.Whole enc Tryz.prog Tryz.f3.params.toList Rows.fileReadsSpec.vars false W args.toList ds gs before) (hL:laidMetH Tryz.prog Rows.fileReadsRow.laid W) (hsh:W.ShapedOpen Tryz.prog):
 Calls Tryz.prog 3 args W λe W'=>∃v,e=.returned v/\Rows.fileReadsSpec.post enc Tryz.prog Tryz.f3 false true false false W args v W':=by
 have hW':=hW;obtain⟨p,q,hA0,hV,rfl,hfz,hnd⟩:=hW;have hA:DataW.TrodAll enc Tryz.prog W 0 (λ_=>true) true Tryz.f3.params.toList args.toList ds p:=hA0;rw[Tryz.params3]at hA hval;obtain⟨v0,vs0,d0,ds0,p0,q0,hargs,rfl,rfl,h0,r0⟩:=trodAll_cons hA;obtain⟨rfl,rfl,rfl⟩:=trodAll_nil r0;obtain rfl:args=#[v0]:=by cases args;simp_all
 obtain⟨s,e0⟩:∃s,v0=.string s:=by
  obtain⟨s,h,_⟩:=Go.ChangeMaps.open_string Tryz.underlying9 (hval 0 9 v0 rfl rfl) h0;exact⟨s,h⟩
 subst e0;have hcalls:Calls Tryz.prog 3 #[.string s] W λe w'=>e=.returned (.bool true)/\Below W.heap.size W w':=JN s.data.toList ⟨G6 hsh,Lx hL,MR hL,NH hL⟩ (D5 hsh) (table hL);refine hcalls.mono λe W' ⟨he,hb⟩=>?_;subst he;refine⟨_,rfl,Ev.law_post (tb:=4) laidOut (λt ht=>?_) rfl (by kernel_rfl) Tryz.underlying4 rfl hW' hb⟩;rw[Tryz.params3]at ht;obtain rfl:t=9:=by simpa using ht
 exact Dp
end Go.Proofs.YtbhokokpplmigaaGreatDoor.fr
