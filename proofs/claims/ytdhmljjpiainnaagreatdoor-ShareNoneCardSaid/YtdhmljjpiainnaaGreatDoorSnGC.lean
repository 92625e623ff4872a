/-
  THE LAW 'counterpanelaw38.ShareNone' COMES TO TRUE, for all numbers and every text; by the certificates of the functions that it reaches.
-/
import Derived.Test.YtdhmljjpiainnaaGreatDoorShGF
namespace Go.Proofs.YtdhmljjpiainnaaGreatDoor.Sx
open Go Go.Proofs.YtdhmljjpiainnaaGreatDoor.Ev
theorem st_0 : St ⟨.leaf, 0⟩ [] ⟨.leaf, 100⟩ := ⟨fun _ _ h => (by cases h), fun _ _ h => (by cases h), trivial⟩
theorem lawIs (author rows cols at0 : Int) (s : ByteArray) : Runs Tryz.prog .leaf (.call 3 [.lit (.int .i64 author), .lit (.int .i64 rows), .lit (.int .i64 cols), .lit (.int .i64 at0), .lit (.string s)] ⟨.leaf, 100⟩) fun o => o.v = .lit (.bool true) := by
  obtain ⟨⟨x⟩⟩ := s
  by_cases h : 1 ≤ author ∧ author ≤ 1000
  · exact (w94r .leaf author rows cols at0 x h st_0).mono fun o ⟨_, _, _, hv, _⟩ => hv
  · exact (w93r .leaf author rows cols at0 x (by omega) st_0).mono fun o ⟨_, _, _, hv, _⟩ => hv
end Go.Proofs.YtdhmljjpiainnaaGreatDoor.Sx
