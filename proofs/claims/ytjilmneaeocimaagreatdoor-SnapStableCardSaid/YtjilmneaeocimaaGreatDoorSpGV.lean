/-
  WHEN TWO IDS ARE ONE, as the model holds two structs against each other; by the author of this claim. | 'counterpanelaw34.Same' tells 1 of what was seen and its own list; by the author's gen_snap.py, in the calculus of runs.
-/
import Derived.Test.YtjilmneaeocimaaGreatDoorSpGB
import Derived.Test.YtjilmneaeocimaaGreatDoorSpGT
namespace Go.Proofs.YtjilmneaeocimaaGreatDoor.snap
open Go Go.Proofs.YtjilmneaeocimaaGreatDoor.Ev

theorem pureRun_bind {α β : Type} (P : Program) (s : Sem α) (f : α → Sem β) : pureRun P (s >>= f) = (pureRun P s).bind fun a => pureRun P (f a) := by
  show pureRun P (s.bind f) = _
  induction s with
  | pure a => rfl
  | program k ih => exact ih P
  | mark m k ih => exact ih
  | _ => rfl
theorem pureRun_pure {α : Type} (P : Program) (a : α) : pureRun P (pure a) = some a := rfl
noncomputable def idFs : Array Field := match Tryz.prog.underlying 44 with
  | some (.struct fs) => fs
  | _ => #[]
noncomputable def idF (i : Nat) : Field := match idFs[i]? with
  | some f => f
  | none => default
theorem idFs_eq : idFs = #[idF 0, idF 1] := by kernel_rfl
theorem idU : pureRun Tryz.prog (underlying 44) = some (.struct idFs) := by kernel_rfl
theorem idHeld : Tryz.prog.stoodInHeld 44 = false := by kernel_rfl
theorem idN0 : (decide ((idF 0).name ≠ "_")) = true := by kernel_rfl
theorem idN1 : (decide ((idF 1).name ≠ "_")) = true := by kernel_rfl
theorem idT0 : (idF 0).type = 3 := by kernel_rfl
theorem idT1 : (idF 1).type = 3 := by kernel_rfl
theorem idP0 (a b : Int) : pureRun Tryz.prog (part 3 #[.int .i64 a, .int .i64 b] (idF 0).offset) = some (.int .i64 a) := by kernel_rfl
theorem idP1 (a b : Int) : pureRun Tryz.prog (part 3 #[.int .i64 a, .int .i64 b] (idF 1).offset) = some (.int .i64 b) := by kernel_rfl
theorem intEqIn (a b : Int) : pureRun Tryz.prog (Op.equalIn 9999 3 (.int .i64 a) (.int .i64 b)) = some (a == b) := by kernel_rfl
set_option maxRecDepth 100000 in
theorem idEq (a b c d : Int) : pureRun Tryz.prog (Op.equal 44 (.agg #[.int .i64 a, .int .i64 b]) (.agg #[.int .i64 c, .int .i64 d])) = some ((a == c) && (b == d)) := by
  have n0 : (idF 0).name ≠ "_" := of_decide_eq_true idN0
  have n1 : (idF 1).name ≠ "_" := of_decide_eq_true idN1
  have hp : pureRun Tryz.prog program = some Tryz.prog := rfl
  show pureRun Tryz.prog (Op.equalIn (9999 + 1) 44 (.agg #[.int .i64 a, .int .i64 b]) (.agg #[.int .i64 c, .int .i64 d])) = _
  rw [Op.equalIn, pureRun_bind, idU]
  simp only [Option.bind_some]
  rw [pureRun_bind, hp]
  simp only [Option.bind_some, idHeld, Bool.false_eq_true, if_false]
  rw [pureRun_bind, idFs_eq, List.forIn_toArray]
  simp only [List.forIn_cons, List.forIn_nil]
  simp only [if_pos n0, if_pos n1, pureRun_bind, idP0, Option.bind_some, idT0, idT1, intEqIn]
  cases (a == c) with
  | false => rfl
  | true =>
    simp only [Bool.not_true, Bool.false_eq_true, if_false, pureRun_pure, Option.bind_some, pureRun_bind, idP1, intEqIn]
    cases (b == d) <;> rfl

theorem idGuard (x y : Operand) (a b c d : Int) : pureRun Tryz.prog (eqGuard .neq 44 x y (.agg #[.int .i64 a, .int .i64 b]) (.agg #[.int .i64 c, .int .i64 d])) = some () := by kernel_rfl
theorem idBin (a b c d : Int) : binOp .neq 44 (.agg #[.int .i64 a, .int .i64 b]) (.agg #[.int .i64 c, .int .i64 d]) = (Op.equal 44 (.agg #[.int .i64 a, .int .i64 b]) (.agg #[.int .i64 c, .int .i64 d]) >>= fun r => pure (.bool (!r))) := by kernel_rfl
theorem idQ (x y : Operand) (a b c d : Int) : binQ Tryz.prog .neq 44 x y (.agg [.lit (.int .i64 a), .lit (.int .i64 b)]) (.agg [.lit (.int .i64 c), .lit (.int .i64 d)]) = (pureRun Tryz.prog (eqGuard .neq 44 x y (.agg #[.int .i64 a, .int .i64 b]) (.agg #[.int .i64 c, .int .i64 d]) >>= fun _ => binOp .neq 44 (.agg #[.int .i64 a, .int .i64 b]) (.agg #[.int .i64 c, .int .i64 d]))).map .lit := by kernel_rfl
theorem idNe (x y : Operand) (a b c d : Int) : binQ Tryz.prog .neq 44 x y (.agg [.lit (.int .i64 a), .lit (.int .i64 b)]) (.agg [.lit (.int .i64 c), .lit (.int .i64 d)]) = some (.lit (.bool (!((a == c) && (b == d))))) := by
  rw [idQ, pureRun_bind, idGuard, Option.bind_some, idBin, pureRun_bind, idEq]
  rfl
end Go.Proofs.YtjilmneaeocimaaGreatDoor.snap
namespace Go.Proofs.YtjilmneaeocimaaGreatDoor.snap
open Go Go.Proofs.YtjilmneaeocimaaGreatDoor.Ev

noncomputable def saRng : Code := (inBlk (seqR (seqL (seqR (seqR (seqR (seqR (bodyOf Tryz.f8))))))))
noncomputable def saAsg : Code := rngA saRng
noncomputable def saBody : Code := rngB saRng
/-- What holds between two rounds. -/
def SaI (A3 A5 A4 lo : Nat) (v : SV) (r : List (Int × Int)) (h : Hp) (k : Nat) (h' : Hp) : Prop := At h' A3 (.cells [v] 25) ∧ At h' A5 (.cells [.lit (.int .i64 (Int.ofNat k))] 3) ∧ At h' A4 (.cells [.lit (.int .i64 0)] 3) ∧ IdR h' lo v r ∧ (∀ c, c < h.next → h'.objs.get c = h.objs.get c) ∧ h.next ≤ h'.next
theorem idNeF (x y : Operand) (p : Int × Int) : binQ Tryz.prog .neq 44 x y (.agg (idC p)) (.agg [.lit (.int .i64 p.1), .lit (.int .i64 p.2)]) = some (.lit (.bool false)) := by
  rw [show (idC p) = [.lit (.int .i64 p.1), .lit (.int .i64 p.2)] from rfl, idNe]
  rw [beq_self_eq_true, beq_self_eq_true]
  rfl
set_option maxHeartbeats 8000000 in
set_option maxRecDepth 20000 in
theorem sa_body (Γ : Glob) (A3 A5 A4 lo lo1 : Nat) (v : SV) (r : List (Int × Int)) (hr0 : r.length ≤ 1000000) (h : Hp) (h35 : A3 ≠ A5) (h45 : A4 ≠ A5) (hA5 : h.next ≤ A5) (hA5l : A5 < lo1) (tm : T SV) (e3 : Fr.ev ⟨tm, 36, []⟩ (.tmp 3) = .ptr A3 0) (e5 : Fr.ev ⟨tm, 36, []⟩ (.tmp 5) = .ptr A5 0) (_e4 : Fr.ev ⟨tm, 36, []⟩ (.tmp 4) = .ptr A4 0) (ro : Option Nat) (k : Nat) (p : Int × Int) (h' : Hp) (hp : r[k]? = some p) (hi : SaI A3 A5 A4 lo v r h k h') :
    Runs Tryz.prog Γ (.code saBody ro ⟨(((tm.set 14 (.lit (.int .i64 p.1))).set 15 (.lit (.int .i64 p.2))).set 7 (.lit (.int .i64 p.1))).set 8 (.lit (.int .i64 p.2)), 36, []⟩ h') fun o => ((∃ fr v0 H, o = ⟨.normal, fr, H, v0⟩ ∧ SaI A3 A5 A4 lo v r h (k + 1) H) ∨ (∃ fr v0 H, o = ⟨.ret, fr, H, v0⟩ ∧ False)) ∧ h'.next ≤ o.hp.next ∧ ∀ c, lo1 ≤ c → c < h'.next → o.hp.objs.get c = h'.objs.get c := by
  obtain ⟨i1, i2, i3, i4, i5, i6⟩ := hi
  have hkl : k < r.length := (List.getElem?_eq_some_iff.1 hp).1
  obtain ⟨bl, hv, hbl⟩ := i4.at hp
  obtain ⟨hcA, _, _⟩ := flat_cut r k p hp
  refine runs_block ?_
  refine runs_seq ?_
  refine runs_seq ?_
  refine runs_region ?_
  refine ops_q (v := .lit (.int .i64 (Int.ofNat k))) (fs := [.cells A5 0 [.lit (.int .i64 (Int.ofNat k))]]) rfl (by simp only [quiet, ev_set, e5]; exact load_cell rfl i2.get rfl) rfl rfl ?_
  refine ops_q (v := v) (fs := [.cells A3 0 [v]]) rfl (by simp only [quiet, ev_set, e3]; exact load_cell rfl i1.get rfl) rfl rfl ?_
  refine ops_q (v := .lit (.int .i64 (Int.ofNat r.length))) (fs := []) rfl (by simp only [quiet]; exact i4.len _) rfl rfl ?_
  refine ops_q (v := .lit (.bool false)) (fs := []) rfl (by simp only [quiet, ev_set]; exact congrArg one (geqF (by simp only [Int.ofNat_eq_natCast]; omega))) rfl rfl ?_
  refine ops_q (v := .lit (.bool false)) (fs := []) rfl rfl rfl rfl ?_
  refine ops_q (v := v) (fs := [.cells A3 0 [v]]) rfl (by simp only [quiet, ev_set, e3]; exact load_cell rfl i1.get rfl) rfl rfl ?_
  refine ops_q (v := .lit (.int .i64 (Int.ofNat k))) (fs := [.cells A5 0 [.lit (.int .i64 (Int.ofNat k))]]) rfl (by simp only [quiet, ev_set, e5]; exact load_cell rfl i2.get rfl) rfl rfl ?_
  refine ops_q (v := .ptr bl (k * 2)) (fs := []) rfl (by simp only [quiet, ev_set, hv]; exact congrArg one (idIdx hkl)) rfl rfl ?_
  refine ops_q (v := .agg (idC p)) (fs := [.cells bl (k * 2) (idC p)]) rfl (by simp only [quiet, ev_set]; exact load_rowA rfl rfl hbl.get hcA) rfl rfl ?_
  refine ops_q (v := .lit (.int .i64 p.1)) (fs := []) rfl rfl rfl rfl ?_
  refine ops_q (v := .lit (.int .i64 p.2)) (fs := []) rfl rfl rfl rfl ?_
  refine ops_q (v := .agg [.lit (.int .i64 p.1), .lit (.int .i64 p.2)]) (fs := []) rfl rfl rfl rfl ?_
  refine ops_q (v := .lit (.bool false)) (fs := []) rfl (by simp only [quiet, ev_set]; exact congrArg one (idNeF _ _ p)) rfl rfl ?_
  refine ops_q (v := .lit (.bool false)) (fs := []) rfl rfl rfl rfl ?_
  refine ops_nil ?_
  refine runs_cond false rfl ?_
  refine runs_skip ?_
  refine runs_region ?_
  refine ops_q (v := .lit (.int .i64 (Int.ofNat k))) (fs := [.cells A5 0 [.lit (.int .i64 (Int.ofNat k))]]) rfl (by simp only [quiet, ev_set, e5]; exact load_cell rfl i2.get rfl) rfl rfl ?_
  refine ops_q (v := .lit (.int .i64 (Int.ofNat (k + 1)))) (fs := []) rfl (by simp only [quiet, ev_set]; exact congrArg one (addQ (c := Int.ofNat (k + 1)) rfl (by simp only [Int.ofNat_eq_natCast]; omega) (by simp only [Int.ofNat_eq_natCast]; omega))) rfl rfl ?_
  refine ops_e0 (v := .lit undef) (hp' := ⟨h'.objs.set A5 (.cells [.lit (.int .i64 (Int.ofNat (k + 1)))] 3), h'.next⟩) rfl rfl rfl (store_one (v := .lit (.int .i64 (Int.ofNat (k + 1)))) (w := .lit (.int .i64 (Int.ofNat k))) rfl (by simp only [ev_set]; exact e5) (by simp only [ev_set] <;> rfl) rfl i2.get) (Nat.le_refl _) rfl ?_
  refine ops_nil ?_
  rw [show ∀ fr hp v, atEnd 1 ⟨.normal, fr, hp, v⟩ = ⟨.normal, fr, hp, v⟩ from fun _ _ _ => rfl]
  refine ⟨.inl ⟨_, _, _, rfl, i1.setNe h35, ⟨i2.lt, get_same⟩, i3.setNe h45, ?_, fun c hc => (get_ne (Nat.ne_of_lt (Nat.lt_of_lt_of_le hc hA5))).trans (i5 c hc), i6⟩, Nat.le_refl _, fun c hc _ => get_ne (Nat.ne_of_gt (Nat.lt_of_lt_of_le hA5l hc))⟩
  rcases i4 with ⟨e, _⟩ | ⟨b2, q1, q2, q3⟩
  · rw [e] at hkl
    cases hkl
  · refine .inr ⟨b2, q1, q2, q3.setNe ?_⟩
    rintro rfl
    have := q3.get.symm.trans i2.get
    cases this

theorem IdR.cell {h : Hp} {lo : Nat} {v : SV} {r : List (Int × Int)} (s : IdR h lo v r) : v.cells = [v] := by
  rcases s with ⟨_, rfl | ⟨b, rfl, _⟩⟩ | ⟨bl, rfl, _⟩ <;> rfl
theorem IdR.keptLo {h H : Hp} {lo lo1 : Nat} {v : SV} {r : List (Int × Int)} (s : IdR h lo v r) (hb : ∀ bl, (v = .row bl 0 r.length r.length bl ∨ v = .slice bl 0 0 0) → bl < lo1) (k : Kept lo1 h H) : IdR H lo v r := by
  rcases s with ⟨e, s | ⟨b, s1, s2⟩⟩ | ⟨bl, s1, s2, s3⟩
  · exact .inl ⟨e, .inl s⟩
  · exact .inl ⟨e, .inr ⟨b, s1, s2.keptLo k (hb b (.inr s1))⟩⟩
  · exact .inr ⟨bl, s1, s2, s3.keptLo k (hb bl (.inl s1))⟩
theorem IdR.blk {h : Hp} {lo : Nat} {v : SV} {r : List (Int × Int)} (s : IdR h lo v r) (bl : Nat) (hb : v = .row bl 0 r.length r.length bl ∨ v = .slice bl 0 0 0) : bl < h.next := by
  rcases s with ⟨_, s | ⟨b, s1, s2⟩⟩ | ⟨b, s1, s2, s3⟩
  · rcases hb with hb | hb <;> rw [s] at hb <;> cases hb
  · rcases hb with hb | hb <;> rw [s1] at hb <;> cases hb
    exact s2.lt
  · rcases hb with hb | hb <;> rw [s1] at hb <;> cases hb
    exact s3.lt
set_option maxHeartbeats 8000000 in
set_option maxRecDepth 20000 in
theorem same_runs (Γ : Glob) (h : Hp) (b M lo : Nat) (v : SV) (r : List (Int × Int)) (hr0 : r.length ≤ 1000000) (hs : SeenAt h b M r) (hr : IdR h lo v r) : Runs Tryz.prog Γ (.call 8 [.ptr b 0, v] h) (Tells h (.lit (.int .i64 1))) := by
  refine runs_call Tryz.func8 rfl ?_
  refine runs_seq ?_
  refine runs_region ?_
  refine ops_box (cs := [v]) rfl rfl hr.cell rfl rfl (fun H1 g1 k1 n1 => ?_)
  have hs_1 := hs.kept k1
  have hr_1 := hr.kept k1
  refine ops_alloc (z := .int .i64 0) rfl rfl rfl rfl rfl (fun H2 g2 k2 n2 => ?_)
  have hs_2 := hs_1.kept k2
  have hr_2 := hr_1.kept k2
  have g1_2 := g1.kept k2
  refine ops_nil ?_
  refine runs_seq ?_
  refine runs_region ?_
  refine ops_newA (cs := [.lit (.int .i64 0)]) rfl rfl rfl rfl rfl rfl rfl rfl (by simp only <;> rfl) rfl rfl rfl rfl (fun H3 g3 k3 n3 => ?_)
  have hs_3 := hs_2.kept k3
  have hr_3 := hr_2.kept k3
  have g1_3 := g1_2.kept k3
  have g2_3 := g2.kept k3
  refine ops_nil ?_
  refine runs_seq ?_
  refine runs_region ?_
  refine ops_q (v := .ptr b 0) (fs := []) rfl rfl rfl rfl ?_
  refine ops_c (f := 19) (args := [.ptr b 0]) rfl rfl rfl (clone_body Tryz.func19 rfl) rfl rfl ?_
  refine (all_runs Γ (.ptr b 0) rfl H3).mono ?_
  rintro ⟨ex4, fr4, H4, v4⟩ ⟨hv4, k4, g4⟩
  have hv4 : v4 = .func (.func 30) [] [.ptr H3.next 0] := hv4
  subst hv4
  have k4 : Kept H3.next H3 H4 := k4
  have g4 : At H4 H3.next (.cells [.ptr b 0] 26) := g4
  have hs_4 := hs_3.kept k4
  have hr_4 := hr_3.kept k4
  have g1_4 := g1_3.kept k4
  have g2_4 := g2_3.kept k4
  have g3_4 := g3.kept k4
  refine ops_q (v := .func (.func 30) [] [.ptr H3.next 0]) (fs := []) rfl rfl rfl rfl ?_
  refine ops_nil ?_
  refine runs_seq ?_
  refine runs_seq ?_
  refine runs_region ?_
  refine ops_q (v := .func (.func 30) [] [.ptr H3.next 0]) (fs := []) rfl rfl rfl rfl ?_
  refine ops_q (v := .lit (.bool false)) (fs := []) rfl rfl rfl rfl ?_
  refine ops_nil ?_
  refine runs_cond false rfl ?_
  refine runs_skip ?_
  refine runs_seq (runs_seq ?_)
  refine runs_region ?_
  refine ops_q (v := .func (.func 30) [] [.ptr H3.next 0]) (fs := []) rfl rfl rfl rfl ?_
  refine ops_nil ?_
  generalize hT : ((((((((((T.ofList [SV.ptr b 0, v] 0 .leaf).set 3 (.ptr h.next 0)).set 4 (.ptr H1.next 0)).set 5 (.ptr H2.next 0)).set 9 (.ptr b 0)).set 10 (.func (.func 30) [] [.ptr H3.next 0])).set 6 (.func (.func 30) [] [.ptr H3.next 0])).set 11 (.func (.func 30) [] [.ptr H3.next 0])).set 12 (.lit (.bool false))).set 13 (.func (.func 30) [] [.ptr H3.next 0])) = tm
  have e3 : Fr.ev ⟨tm, 36, []⟩ (.tmp 3) = .ptr h.next 0 := by rw [← hT]; rfl
  have e4 : Fr.ev ⟨tm, 36, []⟩ (.tmp 4) = .ptr H1.next 0 := by rw [← hT]; rfl
  have e5 : Fr.ev ⟨tm, 36, []⟩ (.tmp 5) = .ptr H2.next 0 := by rw [← hT]; rfl
  have e13 : Fr.ev ⟨tm, 36, []⟩ (.tmp 13) = .func (.func 30) [] [.ptr H3.next 0] := by rw [← hT]; rfl
  have a1 := g1_4.lt
  have a2 := g2_4.lt
  have a3 := g3_4.lt
  have c1 := k1.next
  have c2 := k2.next
  have c3 := k3.next
  have c4 := k4.next
  have d1 : H1.next = h.next + 1 := n1
  have d2 : H2.next = H1.next + 1 := n2
  refine runs_block (range_all (C := H3.next) (v := .ptr b 0) (r := r) (SaI h.next H2.next H1.next lo v r h) (fun _ => False) (fun p => (((tm.set 14 (.lit (.int .i64 p.1))).set 15 (.lit (.int .i64 p.2))).set 7 (.lit (.int .i64 p.1))).set 8 (.lit (.int .i64 p.2))) hr0 rfl rfl e13 g4 (.inl ⟨b, M, rfl, hs_4⟩) ?_ ?_ ?_ ?_ ?_ ?_ ?_)
  · exact fun k h1 h2 ⟨i1, i2, i3, i4, i5, i6⟩ hk => ⟨i1.keptLo hk a1, i2.keptLo hk a3, i3.keptLo hk a2, i4.keptLo (fun bl hb => Nat.lt_of_lt_of_le (hr.blk bl hb) (by first | omega | (dsimp only; omega))) hk, fun c hc => (hk.old c (by first | omega | (dsimp only; omega))).trans (i5 c hc), Nat.le_trans i6 hk.next⟩
  · exact fun h1 h2 hf _ => hf
  · exact ⟨g1_4, g3_4, g2_4, hr_4, fun c hc => (k1.then (k2.then (k3.then k4))).old c hc, (k1.then (k2.then (k3.then k4))).next⟩
  · intro p h'
    refine runs_seq ?_
    refine runs_region ?_
    refine ops_q (v := .lit (.int .i64 p.1)) (fs := []) rfl rfl rfl rfl ?_
    refine ops_nil ?_
    refine runs_region ?_
    refine ops_q (v := .lit (.int .i64 p.2)) (fs := []) rfl rfl rfl rfl ?_
    refine ops_nil ?_
    exact ⟨_, rfl⟩
  · exact fun k p h' hp hlo hi => sa_body Γ h.next H2.next H1.next lo H4.next v r hr0 h (by omega) (by omega) (by omega) a3 tm e3 e5 e4 _ k p h' hp hi
  · intro h' v0 ⟨j1, j2, j3, j4, j5, j6⟩ hD
    have e3D : Fr.ev ⟨tm, Nat.max Tryz.f8.ntmps [SV.ptr b 0, v].length, [H4.next]⟩ (.tmp 3) = .ptr h.next 0 := e3
    have e4D : Fr.ev ⟨tm, Nat.max Tryz.f8.ntmps [SV.ptr b 0, v].length, [H4.next]⟩ (.tmp 4) = .ptr H1.next 0 := e4
    have e5D : Fr.ev ⟨tm, Nat.max Tryz.f8.ntmps [SV.ptr b 0, v].length, [H4.next]⟩ (.tmp 5) = .ptr H2.next 0 := e5
    have hne : H1.next ≠ H4.next := Nat.ne_of_lt a2
    rw [show ∀ fr hp v, atEnd 0 ⟨.normal, fr, hp, v⟩ = ⟨.normal, fr, hp, v⟩ from fun _ _ _ => rfl]
    refine runs_seq ?_
    refine runs_seq ?_
    refine runs_region ?_
    refine ops_q (v := .lit (.int .i64 (Int.ofNat r.length))) (fs := [.cells H2.next 0 [.lit (.int .i64 (Int.ofNat r.length))]]) rfl (by simp only [quiet, e5D]; exact load_cell rfl j2.get rfl) rfl rfl ?_
    refine ops_q (v := v) (fs := [.cells h.next 0 [v]]) rfl (by simp only [quiet, ev_set, e3D]; exact load_cell rfl j1.get rfl) rfl rfl ?_
    refine ops_q (v := .lit (.int .i64 (Int.ofNat r.length))) (fs := []) rfl (by simp only [quiet]; exact j4.len _) rfl rfl ?_
    refine ops_q (v := .lit (.bool false)) (fs := []) rfl (by simp only [quiet, ev_set]; exact congrArg one (neqF rfl)) rfl rfl ?_
    refine ops_nil ?_
    refine runs_cond false rfl ?_
    refine runs_skip ?_
    refine runs_seq ?_
    refine runs_region ?_
    refine ops_e0 (v := .lit undef) (hp' := ⟨h'.objs.set H1.next (.cells [.lit (.int .i64 1)] 3), h'.next⟩) rfl rfl rfl (store_one (v := .lit (.int .i64 1)) (w := .lit (.int .i64 0)) rfl (by simp only [ev_set]; exact e4D) rfl rfl j3.get) (Nat.le_refl _) rfl ?_
    refine ops_nil ?_
    refine runs_ret ?_
    refine ⟨_, leave_cell (t := 4) (ty := 3) (a := H1.next) rfl ((get_ne (Ne.symm hne)).trans hD.get) (by simp only [ev_set]; exact e4D) rfl hne get_same, rfl, ⟨j6, fun c hc => ?_⟩⟩
    exact (get_ne (by first | omega | (dsimp only; omega))).trans ((get_ne (by first | omega | (dsimp only; omega))).trans (j5 c hc))
  · exact fun h' v0 hf _ => hf.elim

end Go.Proofs.YtjilmneaeocimaaGreatDoor.snap
