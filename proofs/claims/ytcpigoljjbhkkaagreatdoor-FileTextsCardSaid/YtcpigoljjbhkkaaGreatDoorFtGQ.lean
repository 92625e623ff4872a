/-
  THE LAW 'counterpanelaw33.FileTexts' RETURNS TRUE, where a text is too long; by the author of this claim. | THE LAW 'counterpanelaw33.FileTexts' RETURNS TRUE, where a text is too long; by the author of this claim. | THE LAW 'counterpanelaw33.FileTexts' RETURNS TRUE on any two texts; by the author of this claim.
-/
import Derived.Test.YtcpigoljjbhkkaaGreatDoorFtGY
import Derived.Test.YtcpigoljjbhkkaaGreatDoorFtGO
import Derived.Test.YtcpigoljjbhkkaaGreatDoorFtGLss
import Derived.Test.YtcpigoljjbhkkaaGreatDoorFtGLls
import Derived.Test.YtcpigoljjbhkkaaGreatDoorFtGLsl
import Derived.Test.YtcpigoljjbhkkaaGreatDoorFtGLll
namespace Go.Proofs.YtcpigoljjbhkkaaGreatDoor.ft
open Go Go.RowKit Go.Proofs.YtcpigoljjbhkkaaGreatDoor.Ev

set_option maxRecDepth 100000 in
theorem long_run_xs (l : List UInt8) : allTrue (runO Tryz.prog (Γ_xs l) (ftOr T_xs true []) 2000 (.call 4 [.opq 0, .opq 1] ⟨.leaf, 1000⟩)) = true := by kernel_rfl
theorem law_xs {s t : List UInt8} (f : Fit K_xs s t) {w : World} (hw : WOk w) (h0 : 10 ≤ w.heap.size) (hΓ : globMet fTab w) : Calls Tryz.prog 4 #[tv s, tv t] w fun e w' => e = .returned (.bool true) ∧ Below w.heap.size w w' := by
  obtain ⟨a, ha⟩ : ∃ a, K_xs.tx[19]? = some a := ⟨_, rfl⟩
  haveI : AskOk Tryz.prog (ftEnv (Γ_xs (den s t a)) K_xs s t) := ftAsk f ha rfl rows_ok_xs
  have hmem := orOk f T_ok_xs (Γ := Γ_xs (den s t a)) (fun w h g cs hg => h g cs hg) (es := []) (fun e h => by cases h)
  have := calls_trueO (Γ := ftEnv (Γ_xs (den s t a)) K_xs s t) noCount mixed hmem 2000 1000 4 [.opq 0, .opq 1] (nmθ K_xs s t) w (long_run_xs _) (fun g cs hg => hΓ g cs hg) (start_inv (by decide) (by decide) s t hw h0) ⟨by show 0 < 1000; omega, by show 1 < 1000; omega, trivial⟩
  rw [args_eq rfl rfl] at this
  exact this
end Go.Proofs.YtcpigoljjbhkkaaGreatDoor.ft
namespace Go.Proofs.YtcpigoljjbhkkaaGreatDoor.ft
open Go Go.RowKit Go.Proofs.YtcpigoljjbhkkaaGreatDoor.Ev

set_option maxRecDepth 100000 in
theorem long_run_sx (l : List UInt8) : allTrue (runO Tryz.prog (Γ_sx l) (ftOr T_sx true []) 2000 (.call 4 [.opq 0, .opq 1] ⟨.leaf, 1000⟩)) = true := by kernel_rfl
theorem law_sx {s t : List UInt8} (f : Fit K_sx s t) {w : World} (hw : WOk w) (h0 : 10 ≤ w.heap.size) (hΓ : globMet fTab w) : Calls Tryz.prog 4 #[tv s, tv t] w fun e w' => e = .returned (.bool true) ∧ Below w.heap.size w w' := by
  obtain ⟨a, ha⟩ : ∃ a, K_sx.tx[19]? = some a := ⟨_, rfl⟩
  haveI : AskOk Tryz.prog (ftEnv (Γ_sx (den s t a)) K_sx s t) := ftAsk f ha rfl rows_ok_sx
  have hmem := orOk f T_ok_sx (Γ := Γ_sx (den s t a)) (fun w h g cs hg => h g cs hg) (es := []) (fun e h => by cases h)
  have := calls_trueO (Γ := ftEnv (Γ_sx (den s t a)) K_sx s t) noCount mixed hmem 2000 1000 4 [.opq 0, .opq 1] (nmθ K_sx s t) w (long_run_sx _) (fun g cs hg => hΓ g cs hg) (start_inv (by decide) (by decide) s t hw h0) ⟨by show 0 < 1000; omega, by show 1 < 1000; omega, trivial⟩
  rw [args_eq rfl rfl] at this
  exact this
end Go.Proofs.YtcpigoljjbhkkaaGreatDoor.ft
namespace Go.Proofs.YtcpigoljjbhkkaaGreatDoor.ft
open Go Go.RowKit Go.Proofs.YtcpigoljjbhkkaaGreatDoor.Ev

theorem law_all (s t : List UInt8) {w : World} (hw : WOk w) (h0 : 10 ≤ w.heap.size) (hΓ : globMet fTab w) : Calls Tryz.prog 4 #[tv s, tv t] w fun e w' => e = .returned (.bool true) ∧ Below w.heap.size w w' := by
  by_cases hs : 300 < s.length
  · exact law_xs ⟨hs, trivial, Nat.zero_le _, trivial⟩ hw h0 hΓ
  · by_cases ht : 300 < t.length
    · exact law_sx ⟨Nat.zero_le _, Nat.le_of_not_lt hs, ht, trivial⟩ hw h0 hΓ
    · by_cases hs2 : s.length ≤ 255
      · by_cases ht2 : t.length ≤ 255
        · exact law_ss ⟨Nat.zero_le _, hs2, Nat.zero_le _, ht2⟩ hw h0 hΓ
        · exact law_sl ⟨Nat.zero_le _, hs2, Nat.lt_of_not_le ht2, Nat.le_of_not_lt ht⟩ hw h0 hΓ
      · by_cases ht2 : t.length ≤ 255
        · exact law_ls ⟨Nat.lt_of_not_le hs2, Nat.le_of_not_lt hs, Nat.zero_le _, ht2⟩ hw h0 hΓ
        · exact law_ll ⟨Nat.lt_of_not_le hs2, Nat.le_of_not_lt hs, Nat.lt_of_not_le ht2, Nat.le_of_not_lt ht⟩ hw h0 hΓ
end Go.Proofs.YtcpigoljjbhkkaaGreatDoor.ft
