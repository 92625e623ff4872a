/-
  A part of the proof of FileReads; no condition.
-/
import Derived.Test.YtbhokokpplmigaaGreatDoorFaGM
import Derived.Test.YtbhokokpplmigaaGreatDoorFrGG
set_option linter.all false
namespace Go.Proofs.YtbhokokpplmigaaGreatDoor.fr
open Go Go.RowKit Go.Proofs.YtbhokokpplmigaaGreatDoor.Ev
instance:Mute pm:=⟨rfl⟩
theorem RU:Sx.St ⟨.leaf,0⟩ [] ⟨.leaf,100⟩:=⟨λ_ _ h=>(by cases h),λ_ _ h=>(by cases h),trivial⟩
theorem OE(s:bn):Runs Tryz.prog pm (.call 3 [Sx.sV s] ⟨.leaf,100⟩) λo=>o.v=.lit (.bool true):=
 (Sx.w136r pm s RU).mono λ_ ⟨_,_,_,hv,_⟩=>hv
theorem JN(s:bn){w:World}(hw:WOk w)(h0:Lie w)(hΓ:globMet pm w):Calls Tryz.prog 3 #[tv s] w λe w'=>e=.returned (.bool true)/\Below w.heap.size w w':=by
 obtain⟨n,outs,h1,h2⟩:=OE s;refine(callsIn_wide.1 (((kx (Γ:=pn) BV mixed PW n).1.call 3 [Sx.sV s] ⟨.leaf,100⟩ outs (h1 n (av _))).2 _ w rB _ w (tE (Γ:=pn) rB 100 hΓ (ue hw h0 (λi=>i<100) rB)) ⟨trivial,trivial⟩)).mono ?_;rintro e w' ⟨o,hm,θ',K',_,rfl,_,hrep⟩;rw[h2 o hm];exact⟨rfl,hrep.below⟩
end Go.Proofs.YtbhokokpplmigaaGreatDoor.fr
