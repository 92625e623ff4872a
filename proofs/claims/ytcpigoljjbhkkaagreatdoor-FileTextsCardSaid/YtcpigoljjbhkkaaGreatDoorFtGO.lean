/-
  'counterpanelaw33.awake' RETURNS TRUE wherever the memory lies as the library wants it; what names mean at the start; by the author of this claim.
-/
import Derived.Test.YtcpigoljjbhkkaaGreatDoorFtGY
import Derived.Test.YtcpigoljjbhkkaaGreatDoorFtGE
namespace Go.Proofs.YtcpigoljjbhkkaaGreatDoor.ft
open Go Go.RowKit Go.Proofs.YtcpigoljjbhkkaaGreatDoor.Ev

/-- What the names mean at the start. -/
def nmθ (K : Tk) (s t : List UInt8) : Ev.Ren := ⟨fun _ => 0, fun _ => 0, fun i => ((den s t (K.nt.getD i [])).length : Int), fun i => tv (den s t (K.tx.getD i []))⟩
theorem nm_ok {K : Tk} (h1 : K.tx.length ≤ 1000) (h2 : K.nt.length ≤ 1000) (s t : List UInt8) : NmOk K s t (nmθ K s t) (· < 1000) := by
  refine ⟨fun i hi => hi, fun i l hl => ?_, fun i l hl => ?_⟩
  · have := (List.getElem?_eq_some_iff.1 hl).1
    refine ⟨by omega, ?_⟩
    show tv (den s t (K.tx.getD i [])) = _
    rw [List.getD_eq_getElem?_getD, hl]
    rfl
  · have := (List.getElem?_eq_some_iff.1 hl).1
    refine ⟨by omega, ?_⟩
    show ((den s t (K.nt.getD i [])).length : Int) = _
    rw [List.getD_eq_getElem?_getD, hl]
    rfl
theorem args_eq {K : Tk} (h0 : K.tx.getD 0 [] = [.a 0]) (h1 : K.tx.getD 1 [] = [.a 1]) (s t : List UInt8) : concL (nmθ K s t) [.opq 0, .opq 1] = [tv s, tv t] := by
  show [tv (den s t (K.tx.getD 0 [])), tv (den s t (K.tx.getD 1 []))] = _
  rw [h0, h1, den_one, den_one]
  rfl
def fTab : Glob := Glob.leaf.set 1 (strCells faults)
theorem start_inv {K : Tk} (h1 : K.tx.length ≤ 1000) (h2 : K.nt.length ≤ 1000) (s t : List UInt8) {w : World} (hw : WOk w) (h0 : 10 ≤ w.heap.size) : ftInv K s t (· < w.heap.size) w (nmθ K s t) (· < 1000) :=
  ⟨⟨by show 0 < _; omega, by show 2 < _; omega, hw⟩, h0, nm_ok h1 h2 s t⟩
set_option maxRecDepth 100000 in
theorem aw_run (l : List UInt8) : allTrue (runO Tryz.prog (Γ_xs l) (ftOr T_xs false []) 2000 (.call 5 [] ⟨.leaf, 1000⟩)) = true := by kernel_rfl
theorem awake_calls {w : World} (hw : WOk w) (h0 : 10 ≤ w.heap.size) (hΓ : globMet fTab w) : Calls Tryz.prog 5 #[] w fun e w' => e = .returned (.bool true) ∧ Below w.heap.size w w' := by
  have f : Fit K_xs (List.replicate 301 0) [] := ⟨by rw [List.length_replicate]; exact Nat.le_refl _, trivial, Nat.zero_le _, trivial⟩
  obtain ⟨a, ha⟩ : ∃ a, K_xs.tx[19]? = some a := ⟨_, rfl⟩
  haveI : AskOk Tryz.prog (ftEnv (Γ_xs (den (List.replicate 301 0) [] a)) K_xs (List.replicate 301 0) []) := ftAsk f ha rfl rows_ok_xs
  exact calls_trueO (Γ := ftEnv (Γ_xs (den (List.replicate 301 0) [] a)) K_xs (List.replicate 301 0) []) noCount mixed (ftOrOk f T_ok_xs (aw := false) (fun h => by cases h) (es := []) (fun e h => by cases h)) 2000 1000 5 [] (nmθ K_xs (List.replicate 301 0) []) w (aw_run _) (fun g cs hg => hΓ g cs hg) (start_inv (by decide) (by decide) _ _ hw h0) trivial
section
variable {Γ : Glob} {K : Tk} {s t : List UInt8} {T : Tabs}
theorem rep_met {Γ : Env} {X : Nat → Prop} {w0 : World} {θ : Ev.Ren} {Kn : Nat → Prop} {hp : Hp} {w : World} (hr : Rep Γ X w0 θ Kn hp w) : globMet Γ.tab w := fun g cs hg => by
  obtain ⟨k1, e, fr, k2⟩ := hr.glob g cs hg
  exact ⟨e, fr, (hr.kept g k1).trans k2⟩
/-- The whole oracle's word. -/
theorem orOk (f : Fit K s t) (hT : TabsOk K T) (hΓ : ∀ w, globMet Γ w → globMet fTab w) {es : List Entry} (hes : ∀ e ∈ es, EntryOk Tryz.prog (ftEnv Γ K s t) e) : OracleOk Tryz.prog (ftEnv Γ K s t) (ftOr T true es) :=
  ftOrOk f hT (fun _ _ _ _ _ _ w hr => awake_calls (plOk_w hr.inv.1 hr) (Nat.le_trans hr.inv.2.1 hr.size) (hΓ w (rep_met hr))) hes
def countT (K : Tk) : List Tok → Option Nat
  | [] => some 0
  | .b c :: r => (countT K r).map fun n => bif Nat.beq c.toNat 10 then n + 1 else n
  | .a i :: r => bif lacks K 10 (.a i) then countT K r else none
theorem countT_ok (f : Fit K s t) : ∀ {l : List Tok} {n : Nat}, countT K l = some n → (den s t l).count 10 = n
  | [], n, h => by obtain rfl := Option.some.inj h; rfl
  | .b c :: r, n, h => by
    obtain ⟨m, hm, rfl⟩ := Option.map_eq_some_iff.1 h
    rw [den_cons]
    show (c :: den s t r).count 10 = _
    rw [List.count_cons, countT_ok f hm]
    cases hb : Nat.beq c.toNat 10 with
    | true =>
      obtain rfl : c = 10 := byte_eq hb
      rfl
    | false =>
      have : ¬ (c == 10) = true := fun e => byte_ne (d := 10) hb (eq_of_beq e)
      rw [if_neg this]
      rfl
  | .a i :: r, n, h => by
    have h : (bif lacks K 10 (.a i) then countT K r else none) = some n := h
    cases hl : lacks K 10 (.a i) with
    | false => rw [hl] at h; cases h
    | true =>
      rw [hl, cond_true] at h
      have := den_lacks (s := s) (t := t) f (c := 10) (l := [.a i]) (by simp [hl])
      rw [den_cons, List.count_append, countT_ok f h]
      rw [den_one] at this
      have e : (Tok.den s t (.a i)).count 10 = 0 := List.count_eq_zero.2 this
      rw [e]
      omega
end
end Go.Proofs.YtcpigoljjbhkkaaGreatDoor.ft
