/-
  THE LAW 'counterpanelaw33.FileTexts' RETURNS TRUE, in one of its six cases; by the author of this claim.
-/
import Derived.Test.YtcpigoljjbhkkaaGreatDoorFtGEslW
import Derived.Test.YtcpigoljjbhkkaaGreatDoorFtGEslR
import Derived.Test.YtcpigoljjbhkkaaGreatDoorFtGEslS
import Derived.Test.YtcpigoljjbhkkaaGreatDoorFtGO
namespace Go.Proofs.YtcpigoljjbhkkaaGreatDoor.ft
open Go Go.RowKit Go.Proofs.YtcpigoljjbhkkaaGreatDoor.Ev

def es_sl : List Entry := [eW_sl, eR_sl, eS_sl]
theorem es_ok_sl {s t : List UInt8} (f : Fit K_sl s t) {a : List Tok} (ha : K_sl.tx[42]? = some a) : ∀ e ∈ es_sl, EntryOk Tryz.prog (ftEnv (Γ_sl (den s t a)) K_sl s t) e :=
  tab_cons (eW_ok_sl f ha) (tab_cons (eR_ok_sl f ha) (tab_cons (eS_ok_sl f ha) fun e h => by cases h))
set_option maxRecDepth 100000 in
theorem pre_ok_sl (l : List UInt8) (v : Nat → SV) : preOk (Γ_sl l) (ftOr T_sl true es_sl) 2000 42 7 v = true := by kernel_rfl
theorem len_none_sl : findRow (.len 9 (.opq 42)) rows_sl = none := by kernel_rfl
theorem idx_none_sl (n : Int) : findRow (.idx 9 (.opq 42) (.lit (.int .i64 n))) rows_sl = none := by kernel_rfl
theorem no_law_sl : ftOr T_sl true es_sl 4 [.opq 0, .opq 1] ⟨.leaf, 1000⟩ = none := by kernel_rfl
set_option maxRecDepth 100000 in
theorem last_sl : ∃ a, K_sl.tx[42]? = some a ∧ small K_sl 400 a = true ∧ countT K_sl a = some 7 := ⟨_, rfl, by kernel_rfl, by kernel_rfl⟩
theorem law_sl {s t : List UInt8} (f : Fit K_sl s t) {w : World} (hw : WOk w) (h0 : 10 ≤ w.heap.size) (hΓ : globMet fTab w) : Calls Tryz.prog 4 #[tv s, tv t] w fun e w' => e = .returned (.bool true) ∧ Below w.heap.size w w' := by
  obtain ⟨a, ha, hs, hc⟩ := last_sl
  haveI : AskOk Tryz.prog (ftEnv (Γ_sl (den s t a)) K_sl s t) := ftAsk f ha rfl rows_ok_sl
  have hl := den_len f hs
  have hmem := orOk f T_ok_sl (Γ := Γ_sl (den s t a)) (fun w h g cs hg => h g cs hg) (es_ok_sl f ha)
  have hr := law_runs (mem := ftOr T_sl true es_sl) (Γ := Γ_sl (den s t a)) rfl len_none_sl idx_none_sl (by omega) (countT_ok f hc) no_law_sl (pre_ok_sl (den s t a))
  have := O.calls_true (Γ := ftEnv (Γ_sl (den s t a)) K_sl s t) noCount mixed hmem (nmθ K_sl s t) hr (fun g cs hg => hΓ g cs hg) (start_inv (by decide) (by decide) s t hw h0) ⟨by show 0 < 1000; omega, by show 1 < 1000; omega, trivial⟩
  rw [args_eq rfl rfl] at this
  exact this
end Go.Proofs.YtcpigoljjbhkkaaGreatDoor.ft
