/-
  A part of the proof of FileReads; no condition.
-/
import Derived.Test.YtbhokokpplmigaaGreatDoorFrGB
import Derived.Test.YtbhokokpplmigaaGreatDoorFrGF
set_option linter.all false
namespace Go.Proofs.YtbhokokpplmigaaGreatDoor.fr
open Go Go.RowKit Go.Proofs.YtbhokokpplmigaaGreatDoor.Ev
theorem Cu:ll Tryz.prog pn words:=by
 intro f args hp outs h;unfold words at h;cases hb:Nat.beq f 11 with
 |true=>
  obtain rfl:=aj hb;rw[hb,bf]at h;exact⟨⟨_,_,Tryz.func11,rfl⟩,λX w0 θ K w hr _=>y7 h hr λs p v e=>N9 (rY hr.inv hr).1 s p v e⟩
 |false=>
 rw[hb,bg]at h;clear hb;cases hb:Nat.beq f 118 with
 |true=>
  obtain rfl:=aj hb;rw[hb,bf]at h;exact⟨⟨_,_,Tryz.func118,rfl⟩,λX w0 θ K w hr _=>y7 h hr λs p v e=>ON s p v e⟩
 |false=>
 rw[hb,bg]at h;clear hb;cases hb:Nat.beq f 61 with
 |true=>
  obtain rfl:=aj hb;rw[hb,bf]at h;exact⟨⟨_,_,Tryz.func61,rfl⟩,λX w0 θ K w hr _=>y7 h hr λs p v e=>MP s p v e⟩
 |false=>
 rw[hb,bg]at h;clear hb;cases hb:Nat.beq f 51 with
 |true=>
  obtain rfl:=aj hb;rw[hb,bf]at h;exact⟨⟨_,_,Tryz.func51,rfl⟩,λX w0 θ K w hr _=>y7 h hr λs p v e=>MV s p v e⟩
 |false=>
 rw[hb,bg]at h;clear hb;cases hb:Nat.beq f 67 with
 |true=>
  obtain rfl:=aj hb;rw[hb,bf]at h;exact⟨⟨_,_,Tryz.func67,rfl⟩,λX w0 θ K w hr _=>y7 h hr λs p v e=>M5 s p v e⟩
 |false=>
 rw[hb,bg]at h;clear hb;cases hb:Nat.beq f 219 with
 |true=>
  obtain rfl:=aj hb;rw[hb,bf]at h;exact⟨⟨_,_,Tryz.func219,rfl⟩,λX w0 θ K w hr _=>Sf h hr⟩
 |false=>
 rw[hb,bg]at h;clear hb;cases hb:Nat.beq f 52 with
 |true=>
  obtain rfl:=aj hb;rw[hb,bf]at h;exact⟨⟨_,_,Tryz.func52,rfl⟩,λX w0 θ K w hr _=>Nu h hr (rY hr.inv hr).1⟩
 |false=>
 rw[hb,bg]at h;clear hb;cases hb:Nat.beq f 44 with
 |true=>
  obtain rfl:=aj hb;rw[hb,bf]at h;exact⟨⟨_,_,Tryz.func44,rfl⟩,λX w0 θ K w hr _=>NK h hr (rY hr.inv hr).2.1⟩
 |false=>
 rw[hb,bg]at h;clear hb;cases hb:Nat.beq f 159 with
 |true=>
  obtain rfl:=aj hb;rw[hb,bf]at h;exact⟨⟨_,_,Tryz.func159,rfl⟩,λX w0 θ K w hr _=>LE h hr (rY hr.inv hr)⟩
 |false=>
 rw[hb,bg]at h;clear hb;cases hb:Nat.beq f 16 with
 |true=>
  obtain rfl:=aj hb;rw[hb,bf]at h;exact⟨⟨_,_,Tryz.func16,rfl⟩,λX w0 θ K w hr _=>Nr h hr⟩
 |false=>
 rw[hb,bg]at h;clear hb;cases hb:Nat.beq f 39 with
 |true=>
  obtain rfl:=aj hb;rw[hb,bf]at h;exact⟨⟨_,_,Tryz.func39,rfl⟩,λX w0 θ K w hr _=>Tg h hr⟩
 |false=>
 rw[hb,bg]at h;clear hb;cases hb:Nat.beq f 26 with
 |true=>
  obtain rfl:=aj hb;rw[hb,bf]at h;exact⟨⟨_,_,Tryz.func26,rfl⟩,λX w0 θ K w hr _=>Q2 h hr⟩
 |false=>
 rw[hb,bg]at h;clear hb;cases hb:Nat.beq f 91 with
 |true=>
  obtain rfl:=aj hb;rw[hb,bf]at h;exact⟨⟨_,_,Tryz.func91,rfl⟩,λX w0 θ K w hr _=>Io h hr⟩
 |false=>
 rw[hb,bg]at h;clear hb;cases hb:Nat.beq f 80 with
 |true=>
  obtain rfl:=aj hb;rw[hb,bf]at h;exact⟨⟨_,_,Tryz.func80,rfl⟩,λX w0 θ K w hr _=>JZ h hr⟩
 |false=>
 rw[hb,bg]at h;clear hb;cases h
theorem JT{Γ:Env}{X:Nat->Prop}{w0:World}{θ:Ev.Ren}{Kn:Nat->Prop}{hp:Hp}{w:World}(hr:Rep Γ X w0 θ Kn hp w):globMet Γ.tab w:=λg cs hg=>by
 obtain⟨k1,e,fr,k2⟩:=hr.glob g cs hg;exact⟨e,fr,(hr.kept g k1).trans k2⟩
theorem BV:ed Tryz.prog:=zL bm
theorem mixed:Tryz.prog.follows .mixedOrders=true:=bm
def rB:Ev.Ren:=⟨λ_=>0,λ_=>0,λ_=>0,λ_=>undef⟩
def Lie(w:World):Prop:=0<w.heap.size/\2<w.heap.size/\5<w.heap.size/\6<w.heap.size
theorem LP{X:Nat->Prop}{w0:World}{θ:Ev.Ren}{K:Nat->Prop}{hp:Hp}{w:World}(hi:Ci X w0 θ K)(hr:Rep pn X w0 θ K hp w):Lie w:=
 ⟨aM (hr.low _ hi.1) hr.size,aM (hr.low _ hi.2.1) hr.size,aM (hr.low _ hi.2.2.1) hr.size,aM (hr.low _ hi.2.2.2.1) hr.size⟩
theorem ue{w:World}(hw:WOk w)(h0:Lie w)(K:Nat->Prop)(θ:Ev.Ren):Ci (·<w.heap.size) w θ K:=⟨h0.1,h0.2.1,h0.2.2.1,h0.2.2.2,hw⟩
set_option maxRecDepth 100000 in
theorem NL:u7 (f8 Tryz.prog pm words 2000 (.call 4 [] ⟨.leaf,1000⟩))=true:=bm
theorem ym{w:World}(hw:WOk w)(h0:Lie w)(hΓ:globMet pm w):Calls Tryz.prog 4 #[] w λe w'=>e=.returned (.bool true)/\Below w.heap.size w w':=
 yz (Γ:=pn) BV mixed Cu 2000 1000 4 [] rB w NL (λg cs hg=>hΓ g cs hg) (ue hw h0 (λi=>i<1000) rB) trivial
theorem PW:ll Tryz.prog (pn) theMem:=by
 intro f args hp outs h;unfold theMem at h;cases hb:Nat.beq f 4 with
 |true=>
  obtain rfl:=aj hb;rw[hb,bf]at h;split at h
  .exact⟨⟨_,_,Tryz.func4,rfl⟩,λX w0 θ K w hr _=>eS hr h trivial (ym (rY hr.inv hr) (LP hr.inv hr) (JT hr))⟩
  .cases h
 |false=>
  rw[hb,bg]at h;exact Cu f args hp outs h
end Go.Proofs.YtbhokokpplmigaaGreatDoor.fr
