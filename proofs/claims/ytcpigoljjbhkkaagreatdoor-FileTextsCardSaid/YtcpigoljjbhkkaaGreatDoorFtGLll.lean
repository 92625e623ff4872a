/-
  THE LAW 'counterpanelaw33.FileTexts' RETURNS TRUE, in one of its six cases; by the author of this claim.
-/
import Derived.Test.YtcpigoljjbhkkaaGreatDoorFtGEll
import Derived.Test.YtcpigoljjbhkkaaGreatDoorFtGO
namespace Go.Proofs.YtcpigoljjbhkkaaGreatDoor.ft
open Go Go.RowKit Go.Proofs.YtcpigoljjbhkkaaGreatDoor.Ev

def es_ll : List Entry := [eW_ll, eR_ll, eS_ll]
theorem es_ok_ll {s t : List UInt8} (f : Fit K_ll s t) {a : List Tok} (ha : K_ll.tx[29]? = some a) : ∀ e ∈ es_ll, EntryOk Tryz.prog (ftEnv (Γ_ll (den s t a)) K_ll s t) e :=
  tab_cons (eW_ok_ll f ha) (tab_cons (eR_ok_ll f ha) (tab_cons (eS_ok_ll f ha) fun e h => by cases h))
set_option maxRecDepth 100000 in
theorem pre_ok_ll (l : List UInt8) (v : Nat → SV) : preOk (Γ_ll l) (ftOr T_ll true es_ll) 2000 29 6 v = true := by kernel_rfl
theorem len_none_ll : findRow (.len 9 (.opq 29)) rows_ll = none := by kernel_rfl
theorem idx_none_ll (n : Int) : findRow (.idx 9 (.opq 29) (.lit (.int .i64 n))) rows_ll = none := by kernel_rfl
theorem no_law_ll : ftOr T_ll true es_ll 4 [.opq 0, .opq 1] ⟨.leaf, 1000⟩ = none := by kernel_rfl
set_option maxRecDepth 100000 in
theorem last_ll : ∃ a, K_ll.tx[29]? = some a ∧ small K_ll 400 a = true ∧ countT K_ll a = some 6 := ⟨_, rfl, by kernel_rfl, by kernel_rfl⟩
theorem law_ll {s t : List UInt8} (f : Fit K_ll s t) {w : World} (hw : WOk w) (h0 : 10 ≤ w.heap.size) (hΓ : globMet fTab w) : Calls Tryz.prog 4 #[tv s, tv t] w fun e w' => e = .returned (.bool true) ∧ Below w.heap.size w w' := by
  obtain ⟨a, ha, hs, hc⟩ := last_ll
  haveI : AskOk Tryz.prog (ftEnv (Γ_ll (den s t a)) K_ll s t) := ftAsk f ha rfl rows_ok_ll
  have hl := den_len f hs
  have hmem := orOk f T_ok_ll (Γ := Γ_ll (den s t a)) (fun w h g cs hg => h g cs hg) (es_ok_ll f ha)
  have hr := law_runs (mem := ftOr T_ll true es_ll) (Γ := Γ_ll (den s t a)) rfl len_none_ll idx_none_ll (by omega) (countT_ok f hc) no_law_ll (pre_ok_ll (den s t a))
  have := O.calls_true (Γ := ftEnv (Γ_ll (den s t a)) K_ll s t) noCount mixed hmem (nmθ K_ll s t) hr (fun g cs hg => hΓ g cs hg) (start_inv (by decide) (by decide) s t hw h0) ⟨by show 0 < 1000; omega, by show 1 < 1000; omega, trivial⟩
  rw [args_eq rfl rfl] at this
  exact this
end Go.Proofs.YtcpigoljjbhkkaaGreatDoor.ft
