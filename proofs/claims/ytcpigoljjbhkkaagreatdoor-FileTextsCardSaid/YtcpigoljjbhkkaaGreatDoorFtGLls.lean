/-
  THE LAW 'counterpanelaw33.FileTexts' RETURNS TRUE, in one of its six cases; by the author of this claim.
-/
import Derived.Test.YtcpigoljjbhkkaaGreatDoorFtGElsW
import Derived.Test.YtcpigoljjbhkkaaGreatDoorFtGElsR
import Derived.Test.YtcpigoljjbhkkaaGreatDoorFtGElsS
import Derived.Test.YtcpigoljjbhkkaaGreatDoorFtGO
namespace Go.Proofs.YtcpigoljjbhkkaaGreatDoor.ft
open Go Go.RowKit Go.Proofs.YtcpigoljjbhkkaaGreatDoor.Ev

def es_ls : List Entry := [eW_ls, eR_ls, eS_ls]
theorem es_ok_ls {s t : List UInt8} (f : Fit K_ls s t) {a : List Tok} (ha : K_ls.tx[42]? = some a) : ∀ e ∈ es_ls, EntryOk Tryz.prog (ftEnv (Γ_ls (den s t a)) K_ls s t) e :=
  tab_cons (eW_ok_ls f ha) (tab_cons (eR_ok_ls f ha) (tab_cons (eS_ok_ls f ha) fun e h => by cases h))
set_option maxRecDepth 100000 in
theorem pre_ok_ls (l : List UInt8) (v : Nat → SV) : preOk (Γ_ls l) (ftOr T_ls true es_ls) 2000 42 7 v = true := by kernel_rfl
theorem len_none_ls : findRow (.len 9 (.opq 42)) rows_ls = none := by kernel_rfl
theorem idx_none_ls (n : Int) : findRow (.idx 9 (.opq 42) (.lit (.int .i64 n))) rows_ls = none := by kernel_rfl
theorem no_law_ls : ftOr T_ls true es_ls 4 [.opq 0, .opq 1] ⟨.leaf, 1000⟩ = none := by kernel_rfl
set_option maxRecDepth 100000 in
theorem last_ls : ∃ a, K_ls.tx[42]? = some a ∧ small K_ls 400 a = true ∧ countT K_ls a = some 7 := ⟨_, rfl, by kernel_rfl, by kernel_rfl⟩
theorem law_ls {s t : List UInt8} (f : Fit K_ls s t) {w : World} (hw : WOk w) (h0 : 10 ≤ w.heap.size) (hΓ : globMet fTab w) : Calls Tryz.prog 4 #[tv s, tv t] w fun e w' => e = .returned (.bool true) ∧ Below w.heap.size w w' := by
  obtain ⟨a, ha, hs, hc⟩ := last_ls
  haveI : AskOk Tryz.prog (ftEnv (Γ_ls (den s t a)) K_ls s t) := ftAsk f ha rfl rows_ok_ls
  have hl := den_len f hs
  have hmem := orOk f T_ok_ls (Γ := Γ_ls (den s t a)) (fun w h g cs hg => h g cs hg) (es_ok_ls f ha)
  have hr := law_runs (mem := ftOr T_ls true es_ls) (Γ := Γ_ls (den s t a)) rfl len_none_ls idx_none_ls (by omega) (countT_ok f hc) no_law_ls (pre_ok_ls (den s t a))
  have := O.calls_true (Γ := ftEnv (Γ_ls (den s t a)) K_ls s t) noCount mixed hmem (nmθ K_ls s t) hr (fun g cs hg => hΓ g cs hg) (start_inv (by decide) (by decide) s t hw h0) ⟨by show 0 < 1000; omega, by show 1 < 1000; omega, trivial⟩
  rw [args_eq rfl rfl] at this
  exact this
end Go.Proofs.YtcpigoljjbhkkaaGreatDoor.ft
