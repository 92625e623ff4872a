/-
  NUMBERS IN A ROW, SORTED: the word of this seat's oracle on 'slices.Sort' at []int; by the author of this claim. | THE SEAT's ORACLE: the document's example ('counterpanelaw40.awake') tells true; a sort of numbers sorts them. Shown in later texts.
-/
import Derived.Test.YtjilmneaeocimaaGreatDoorEvGF
namespace Go.Proofs.YtjilmneaeocimaaGreatDoor.snap
open Go Go.Proofs.YtjilmneaeocimaaGreatDoor.Ev

def iv (n : Int) : SV := .lit (.int .i64 n)
def decI : List SV → List Int
  | .lit (.int _ z) :: r => z :: decI r
  | _ => []
theorem decI_iv : ∀ zs : List Int, decI (zs.map iv) = zs
  | [] => rfl
  | z :: zs => by
    show z :: decI (zs.map iv) = _
    rw [decI_iv zs]
open Classical in
/-- The word on a sort. -/
noncomputable def sortV (v : SV) (hp : Hp) : R := match v with
  | .lit (.slice none 0 0) => some [⟨.ret, ⟨.leaf, 0, []⟩, hp, .lit (.tuple #[])⟩]
  | .row b 0 n n' cv => match hp.objs.get b with
    | some (.row l e k cv' size) => if l = (decI l).map iv ∧ n' = n ∧ k = n ∧ cv' = cv ∧ e = 3 ∧ size = 1 ∧ (decI l).length = n ∧ n ≤ 1000000 then some [⟨.ret, ⟨.leaf, 0, []⟩, hp.upd b (.row (((decI l).mergeSort fun x y => decide (x ≤ y)).map iv) e k cv' size), .lit (.tuple #[])⟩] else none
    | _ => none
  | _ => none
noncomputable def sortW (args : List SV) (hp : Hp) : R := match args with
  | [v] => sortV v hp
  | _ => none
theorem sortW_row {hp : Hp} {b : Nat} {zs : List Int} (hn : zs.length ≤ 1000000) (hb : hp.objs.get b = some (.row (zs.map iv) 3 zs.length b 1)) :
    sortW [.row b 0 zs.length zs.length b] hp = some [⟨.ret, ⟨.leaf, 0, []⟩, hp.upd b (.row ((zs.mergeSort fun x y => decide (x ≤ y)).map iv) 3 zs.length b 1), .lit (.tuple #[])⟩] := by
  show sortV (.row b 0 zs.length zs.length b) hp = _
  simp only [sortV, hb, decI_iv, true_and, hn, if_true]
end Go.Proofs.YtjilmneaeocimaaGreatDoor.snap
namespace Go.Proofs.YtjilmneaeocimaaGreatDoor.Ev
open Go
noncomputable def theMem : Oracle := fun f args hp => bif Nat.beq f 5 then (match args with
  | [] => some [⟨.ret, ⟨.leaf, 0, []⟩, hp, .lit (.bool true)⟩]
  | _ => none) else bif Nat.beq f 45 then snap.sortW args hp else none
end Go.Proofs.YtjilmneaeocimaaGreatDoor.Ev
