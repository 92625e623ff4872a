/-
  A part of the proof of FileReads; no condition.
-/
import Derived.Test.YtbhokokpplmigaaGreatDoorFrGI
import Derived.Test.YtbhokokpplmigaaGreatDoorFrGJ
set_option linter.all false
namespace Go.Proofs.YtbhokokpplmigaaGreatDoor.fr
open Go.ChangeShapes Go.WideShapes Go.ChangeAt Go.RowKit
set_option maxRecDepth 100000 in
theorem lifted(os:Os)(started:os.Started)(H:Type)(enc:TypeId×Value->H)(F:Stop.Interp):
 ReturnsInHanded {} Tryz.checked os 3 .any ((OpenSpec.ofChange Rows.fileReadsSpec).preRow enc Tryz.prog Tryz.f3 Rows.fileReadsRow.domain false Rows.fileReadsRow.laid) (((OpenSpec.ofChange Rows.fileReadsSpec).at F).post enc Tryz.prog Tryz.f3 false true false false):=by
 have hx:=reads os enc;refine returnsInHanded_of_row (C:=Tryz.checked) (s:=OpenSpec.ofChange Rows.fileReadsSpec) own started (by kernel_rfl) Tryz.func3
  (witness_row_atRef (enc:=enc) (C:=Tryz.checked) false (oD os) Ch rfl (by kernel_rfl) (by kernel_rfl) (by kernel_rfl)
   (OpenSpec.preRow_of_cond 16 hx (by kernel_rfl) (λk hk=>by cases hk) (by kernel_rfl) (Ho os))) ?_
 intro W base args ds gs before hval hW _ _ _ hL hsh _;exact H8 H enc W base args ds gs before hval hW hL hsh
end Go.Proofs.YtbhokokpplmigaaGreatDoor.fr
