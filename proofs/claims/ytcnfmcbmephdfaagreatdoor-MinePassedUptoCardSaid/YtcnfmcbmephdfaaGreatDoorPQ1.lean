/-
  THE CARD OF 'counterpanelaw39.MinePassed' (second form): for all numbers and every letter, of bulk at most 1048576, the law returns true, and its arguments read as they did. No condition but the form's own.
-/
import Derived.Test.YtcnfmcbmephdfaaGreatDoorRows
import Derived.Test.YtcnfmcbmephdfaaGreatDoorPsM
import Derived.Test.YtcnfmcbmephdfaaGreatDoorPsP
import Derived.Test.YtcnfmcbmephdfaaGreatDoorDeR
import Derived.WalkKit
import Derived.ProofKit
import Derived.OpenShut
import Derived.Deep.DeepHandedRow
namespace Go.Proofs.YtcnfmcbmephdfaaGreatDoor.minePassed
open Go.ChangeShapes Go.WideShapes Go.ChangeAt Go.RowKit Go.Proofs.YtcnfmcbmephdfaaGreatDoor.d
section
variable {H : Type}
theorem bulk_one (d : DataW H) : 1 ≤ Rows.uptoBulk d := by
  cases d with
  | lit l => cases l <;> simp [Rows.uptoBulk]
  | _ => simp [Rows.uptoBulk]
theorem bulk_at : ∀ {l : List (DataW H)} {j : Nat} {x : DataW H}, l[j]? = some x → Rows.uptoBulk x ≤ Rows.uptoBulkAll l
  | [], _, _, h => by simp at h
  | a :: l, 0, x, h => by
    obtain rfl : a = x := by simpa using h
    simp only [Rows.uptoBulkAll]; omega
  | a :: l, j + 1, x, h => by
    have := bulk_at (l := l) (j := j) (x := x) (by simpa using h)
    simp only [Rows.uptoBulkAll]; omega
theorem bulk_sum : ∀ l : List (DataW H), (l.map Rows.uptoBulk).sum = Rows.uptoBulkAll l
  | [] => by simp [Rows.uptoBulkAll]
  | a :: l => by simp only [List.map_cons, List.sum_cons, Rows.uptoBulkAll, bulk_sum l]
end
theorem walk (D : LD) (xs : List Value) (hx : xs.map Ev.SV.lit = D.cells) (hs : 1 + sizeL D.ks ≤ 1900000) (hc : ∀ c ∈ xs, Ev.oneOf c = c) (m k : Int) (hm0 : 0 ≤ m) (hm1 : m < 256) (hk0 : 0 ≤ k) (hk1 : k < 256) (w : World) (h0 : Ev.globMet Γ0 w) (hr : ∀ h, KidsOf (Ev.allTab w) h (.lit D.v) D.ks) :
    Calls Tryz.prog 3 #[.int .u8 m, .int .u8 k, .agg xs.toArray] w fun e w' => e = .returned (.bool true) ∧ Below w.heap.size w w' := by
  have hl : xs.length = 40 := by rw [← List.length_map (f := Ev.SV.lit), hx]; rfl
  have hopq : ∀ i, i < 40 → Ev.oneOf (xs.getD i undef) = xs.getD i undef := fun i hi => by
    refine hc _ ?_
    rw [List.getD_eq_getElem?_getD, List.getElem?_eq_getElem (by omega)]
    exact List.getElem_mem (by omega)
  let θ : Ev.Ren := ⟨fun _ => 0, fun _ => 0, fun _ => 0, fun i => xs.getD i undef⟩
  have h := Ev.O.calls_true (Γ := oddEnv D xs) noCount mixed (memOk D xs hx hs (decide (D.dk = 7) || !D.right) fun h => by
      rw [Bool.or_eq_true, decide_eq_true_eq, Bool.not_eq_true'] at h
      exact h) θ (law_runs m k D.dk D.right (decide (D.dk = 7) || !D.right) hm0 hm1 hk0 hk1 fun h => by
      rw [Bool.or_eq_true, decide_eq_true_eq, Bool.not_eq_true']
      exact h) h0
    ⟨fun i hi => ⟨by show i < 100; omega, hopq i hi⟩, Ev.allTab w, fun g cs hg => by
      obtain ⟨e, fr, hh⟩ := Ev.allTab_met w g cs hg
      exact ⟨(Array.getElem?_eq_some_iff.1 hh).1, e, fr, hh⟩, hr⟩ ⟨trivial, trivial, ⟨show 0 < 100 by decide, show 1 < 100 by decide, trivial, Ev.opqs_ok 37 3 (by decide)⟩, trivial⟩
  have e : Ev.concL θ (oddCells D.dk) = xs := by
    rw [(cells_of D xs hx (θ := θ) fun i hi => hopq i hi).1, ← hx]
    exact Ev.concL_lits θ xs
  simp only [Ev.concL, Ev.conc, e] at h
  exact h
theorem own : ownKnob Tryz.prog.godebug = none := by kernel_rfl
theorem readable5 : Tryz.prog.readableRec 5 = true ∧ 5 < Tryz.prog.types.size := ⟨by kernel_rfl, of_decide_eq_true (by kernel_rfl)⟩
theorem readable43 : Tryz.prog.readableRec 43 = true ∧ 43 < Tryz.prog.types.size := ⟨by kernel_rfl, of_decide_eq_true (by kernel_rfl)⟩
theorem gTab : Tryz.prog.globalNamed "counterpane/value.faultTexts" = some 0 := by kernel_rfl
theorem gTabType : (Tryz.prog.globals[0]?).map (·.type) = some 319 := by kernel_rfl
theorem cellsTab : Tryz.prog.cellsOf 319 = 10 := by kernel_rfl
theorem cellsStr : Tryz.prog.cellsOf 9 = 1 := by kernel_rfl
theorem cellsLetter : Tryz.prog.cellsOf 43 = 40 := by kernel_rfl
theorem laidOut : laidOutB Tryz.prog = true := by kernel_rfl
theorem met {W : World} (h : laidMetH Tryz.prog Rows.minePassedUptoRow.laid W) : laidMet Tryz.prog Rows.minePassedUptoRow.laid W := by
  unfold laidMetH at h
  rw [show (Rows.minePassedUptoRow.laid.filter fun x => x.2.handleName?.isSome) = [] by kernel_rfl] at h
  exact h
theorem table {W : World} (h : laidMetH Tryz.prog Rows.minePassedUptoRow.laid W) : Ev.globMet Γ0 W :=
  Ev.strTab (name := "counterpane/value.faultTexts") (zs := faults) (met h) (List.mem_cons_of_mem _ (List.mem_cons_of_mem _ (List.mem_cons_of_mem _ (List.mem_cons_of_mem _ (List.mem_cons_self ..))))) gTab gTabType Tryz.underlying319 Tryz.underlying9 cellsStr cellsTab
theorem u8_in {n : Int} (h : (Lit.int .u8 n).wf = true) : 0 ≤ n ∧ n < 256 := by
  have h : (decide (IntKind.u8.min ≤ n) && decide (n ≤ IntKind.u8.max)) = true := h
  rw [show IntKind.u8.min = 0 from rfl, show IntKind.u8.max = 255 from rfl, Bool.and_eq_true, decide_eq_true_eq, decide_eq_true_eq] at h
  omega
set_option maxRecDepth 100000 in
theorem contract (H : Type) (enc : TypeId × Value → H) (W : World) (base : Nat) (args : Array Value) (ds gs : List (DataW H)) (before : List MemPlace)
    (hval : ∀ (j : Nat) t v, Tryz.f3.params[j]? = some t → args[j]? = some v → Value.okWide Tryz.prog W .any base t v)
    (hW : DataW.Whole enc Tryz.prog Tryz.f3.params.toList Rows.minePassedSpec.vars false W args.toList ds gs before) (hk : Rows.uptoSmall H (ds ++ gs) = true) (hL : laidMetH Tryz.prog Rows.minePassedUptoRow.laid W) :
    Calls Tryz.prog 3 args W fun e W' => ∃ v, e = .returned v ∧ Rows.minePassedSpec.post enc Tryz.prog Tryz.f3 false true false false W args v W' := by
  have hW' := hW
  obtain ⟨p, q, hA0, hV, rfl, hfz, hnd⟩ := hW
  have hA : DataW.TrodAll enc Tryz.prog W 0 (fun _ => true) true Tryz.f3.params.toList args.toList ds p := hA0
  rw [Tryz.params3] at hA hval
  obtain ⟨v0, vs0, d0, ds0, p0, q0, hargs, rfl, rfl, h0, r0⟩ := trodAll_cons hA
  obtain ⟨v1, vs1, d1, ds1, p1, q1, rfl, rfl, rfl, h1, r1⟩ := trodAll_cons r0
  obtain ⟨v2, vs2, d2, ds2, p2, q2, rfl, rfl, rfl, h2, r2⟩ := trodAll_cons r1
  obtain ⟨rfl, rfl, rfl⟩ := trodAll_nil r2
  obtain rfl : args = #[v0, v1, v2] := by cases args; simp_all
  obtain ⟨cs, rfl, hn, hc⟩ := Ev.struct_cells Tryz.underlying43 cellsLetter (hval 2 43 v2 rfl rfl)
  obtain ⟨fuel, hf⟩ := h2
  have hl : cs.toList.length = 40 := by simpa using hn
  have hread := fun hp => letter_of_trod (bulk := Rows.uptoBulk) bulk_one (fun parts j x hx => by
      have := bulk_at hx
      simp only [Rows.uptoBulk]; omega) (fun es rest => by
      rw [bulk_sum]
      simp only [Rows.uptoBulk]; omega) hp hl hf
  obtain ⟨m, rfl, _, _, hm⟩ := open_int Tryz.underlying5 (hval 0 5 v0 rfl rfl) h0
  obtain ⟨k, rfl, _, _, hkk⟩ := open_int Tryz.underlying5 (hval 1 5 v1 rfl rfl) h1
  have hb : Rows.uptoBulkAll ([d0, d1, d2] ++ gs) ≤ 1048576 := of_decide_eq_true hk
  have hb2 := bulk_at (l := [d0, d1, d2] ++ gs) (j := 2) (x := d2) rfl
  obtain ⟨e0, e1, dk, f0, f1, f2, f3, t0, t1, tx, ca, g0, g1, g2, g3, g4, g5, c39, x, ks, v, hx, hks, hsz⟩ := hread ⟨.leaf, 0⟩
  have hall : ∀ h, KidsOf (Ev.allTab W) h (.lit v) ks := fun h => hks.kept ⟨Nat.zero_le _, fun _ hb => absurd hb (Nat.not_lt_zero _)⟩
  have hcalls := walk ⟨e0, e1, dk, f0, f1, f2, f3, t0, t1, tx, ca, g0, g1, g2, g3, g4, g5, x, ks, v, c39⟩ cs.toList hx (by show 1 + sizeL ks ≤ 1900000; omega) hc m k (u8_in hm).1 (u8_in hm).2 (u8_in hkk).1 (u8_in hkk).2 W (table hL) hall
  refine hcalls.mono fun e W' ⟨he, hb⟩ => ?_
  subst he
  refine ⟨_, rfl, Ev.law_post (tb := 4) laidOut (fun t ht => ?_) rfl (by kernel_rfl) Tryz.underlying4 rfl hW' hb⟩
  rw [Tryz.params3] at ht
  rcases (show t = 5 ∨ t = 5 ∨ t = 43 by simpa using ht) with rfl | rfl | rfl
  · exact readable5
  · exact readable5
  · exact readable43
end Go.Proofs.YtcnfmcbmephdfaaGreatDoor.minePassed
