/-
  THE CARD OF 'counterpanelaw33.FileReads': for every text the law returns true, and its argument reads as it did. No condition.
-/
import Derived.Test.YtbhokokpplmigaaGreatDoorCards
import Derived.Test.YtbhokokpplmigaaGreatDoorTie
import Derived.Test.YtbhokokpplmigaaGreatDoorFrGM
import Derived.Test.YtbhokokpplmigaaGreatDoorFrGN
set_option linter.all false
namespace Go.Proofs.YtbhokokpplmigaaGreatDoor.fr
open Go.ChangeShapes Go.WideShapes Go.ChangeAt Go.RowKit
theorem plain(f:FuncId)(fn:Func)(hf:Tryz.pinned.checked.prog.funcNamed Rows.fileReadsRow.func=some f)(hfn:Tryz.pinned.checked.prog.funcs[f]? =some fn):
 true=Tryz.pinned.checked.prog.looks []/\∀(j:Nat) t,fn.params[j]? =some t->Tryz.pinned.checked.prog.wantsStandIn t=false:=by
 obtain rfl:f=3:=Option.some.inj ((show Tryz.prog.funcNamed Rows.fileReadsRow.func=some 3 by kernel_rfl).symm.trans hf) |>.symm
 obtain rfl:fn=Tryz.f3:=(Option.some.inj (Tryz.func3.symm.trans hfn)).symm;refine⟨by kernel_rfl,λj t ht=>?_⟩;rw[Tryz.params3]at ht;obtain rfl:t=9:=by simpa using Array.mem_of_getElem? ht
 exact(show Tryz.prog.wantsStandIn 9=false by kernel_rfl)
theorem card:Rows.FileReadsCardSaid:=
 Claim7.holds_tied_plain_at .later [] _ _ _ _ said (λ_ h=>by cases h) (by kernel_rfl) (λ_ h=>by cases h) fileReads_row_tie rfl ⟨rfl,rfl⟩ (by kernel_rfl) rfl plain Rg
end Go.Proofs.YtbhokokpplmigaaGreatDoor.fr
