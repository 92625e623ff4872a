/-
  THE LAW 'counterpanelaw33.FileTexts' RETURNS TRUE, in one of its six cases; by the author of this claim.
-/
import Derived.Test.YtcpigoljjbhkkaaGreatDoorFtGEssW
import Derived.Test.YtcpigoljjbhkkaaGreatDoorFtGEssR
import Derived.Test.YtcpigoljjbhkkaaGreatDoorFtGEssS
import Derived.Test.YtcpigoljjbhkkaaGreatDoorFtGO
namespace Go.Proofs.YtcpigoljjbhkkaaGreatDoor.ft
open Go Go.RowKit Go.Proofs.YtcpigoljjbhkkaaGreatDoor.Ev

def es_ss : List Entry := [eW_ss, eR_ss, eS_ss]
theorem es_ok_ss {s t : List UInt8} (f : Fit K_ss s t) {a : List Tok} (ha : K_ss.tx[55]? = some a) : ∀ e ∈ es_ss, EntryOk Tryz.prog (ftEnv (Γ_ss (den s t a)) K_ss s t) e :=
  tab_cons (eW_ok_ss f ha) (tab_cons (eR_ok_ss f ha) (tab_cons (eS_ok_ss f ha) fun e h => by cases h))
set_option maxRecDepth 100000 in
theorem pre_ok_ss (l : List UInt8) (v : Nat → SV) : preOk (Γ_ss l) (ftOr T_ss true es_ss) 2000 55 8 v = true := by kernel_rfl
theorem len_none_ss : findRow (.len 9 (.opq 55)) rows_ss = none := by kernel_rfl
theorem idx_none_ss (n : Int) : findRow (.idx 9 (.opq 55) (.lit (.int .i64 n))) rows_ss = none := by kernel_rfl
theorem no_law_ss : ftOr T_ss true es_ss 4 [.opq 0, .opq 1] ⟨.leaf, 1000⟩ = none := by kernel_rfl
set_option maxRecDepth 100000 in
theorem last_ss : ∃ a, K_ss.tx[55]? = some a ∧ small K_ss 400 a = true ∧ countT K_ss a = some 8 := ⟨_, rfl, by kernel_rfl, by kernel_rfl⟩
theorem law_ss {s t : List UInt8} (f : Fit K_ss s t) {w : World} (hw : WOk w) (h0 : 10 ≤ w.heap.size) (hΓ : globMet fTab w) : Calls Tryz.prog 4 #[tv s, tv t] w fun e w' => e = .returned (.bool true) ∧ Below w.heap.size w w' := by
  obtain ⟨a, ha, hs, hc⟩ := last_ss
  haveI : AskOk Tryz.prog (ftEnv (Γ_ss (den s t a)) K_ss s t) := ftAsk f ha rfl rows_ok_ss
  have hl := den_len f hs
  have hmem := orOk f T_ok_ss (Γ := Γ_ss (den s t a)) (fun w h g cs hg => h g cs hg) (es_ok_ss f ha)
  have hr := law_runs (mem := ftOr T_ss true es_ss) (Γ := Γ_ss (den s t a)) rfl len_none_ss idx_none_ss (by omega) (countT_ok f hc) no_law_ss (pre_ok_ss (den s t a))
  have := O.calls_true (Γ := ftEnv (Γ_ss (den s t a)) K_ss s t) noCount mixed hmem (nmθ K_ss s t) hr (fun g cs hg => hΓ g cs hg) (start_inv (by decide) (by decide) s t hw h0) ⟨by show 0 < 1000; omega, by show 1 < 1000; omega, trivial⟩
  rw [args_eq rfl rfl] at this
  exact this
end Go.Proofs.YtcpigoljjbhkkaaGreatDoor.ft
