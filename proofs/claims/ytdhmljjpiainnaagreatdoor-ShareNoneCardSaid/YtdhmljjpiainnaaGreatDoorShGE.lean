/-
  THE AXIS, AND THE SHEET, OF A NEW WRITER, by certificate; by the author of this claim. | THE SHEET of a new writer, by certificate; by the author of this claim. | OF NONE nothing is seen; a new writer's sheet, handed on, by certificate; by the author of this claim.
-/
import Derived.Test.YtdhmljjpiainnaaGreatDoorShGD
namespace Go.Proofs.YtdhmljjpiainnaaGreatDoor.Sx
open Go Go.Proofs.YtdhmljjpiainnaaGreatDoor.Ev
set_option maxRecDepth 20000
set_option maxHeartbeats 4000000
abbrev zh0 : List MI := [.asr 3, .blk 5 [.raw 1, .map 6, .map 7, .lit (.slice none 0 0), .map 8] 306, .asr 4, .asr 5, .asr 6, .asr 7, .obj 4 (.deferred true), .blk 3 [.ptr 1 0] 94, .asr 0, .blk 2 [.raw 0] 43, .blk 0 [.lit (.map none), .lit (.map none), .lit (.map none), I (.v 2), I (.v 3), I (.v 4), .lit (.slice none 0 0), .lit (.map none), .lit (.map none), .lit (.map none), .lit (.pointer none), .bool (.bl false)] 89]
abbrev zh1 : List MI := [.obj 9 (.map [] 0), .blk 5 [.raw 4, .map 6, .map 7, .lit (.slice none 0 0), .map 8] 306, .asr 12, .asr 13, .asr 14, .asr 15, .asr 16, .blk 0 [.raw 1, .map 2, .map 3, .lit (.slice none 0 0), .map 4] 306, .asr 4, .asr 5, .asr 6, .asr 7]
abbrev zh2 : List MI := [.asr 20, .asr 17, .asr 18, .blk 5 [.raw 4, .map 6, .map 7, .lit (.slice none 0 0), .map 8] 306, .asr 12, .asr 13, .asr 14, .asr 15, .blk 0 [.raw 1, .map 2, .map 3, .lit (.slice none 0 0), .map 4] 306, .asr 4, .asr 5, .asr 6, .asr 7]
abbrev zh3 : List XV := [.lit (.map none), .lit (.map none), .lit (.map none), I (.v 2), I (.v 3), I (.v 4), .lit (.slice none 0 0), .lit (.map none), .lit (.map none), .lit (.map none), .lit (.pointer none), .bool (.bl false)]
abbrev zh4 : List (Nat × XV) := [(0, .ptr 0 0), (2, I (.v 0)), (3, I (.v 1)), (11, .ptr 5 0), (27, .lit (.slice none 0 0)), (28, I (.z 0)), (29, I (.z 0))]
abbrev zh5 : List (Nat × XV) := [(1, .fn 33 [.ptr 1 0] []), (6, .raw 3), (7, .map 9), (48, .lit (.slice none 0 0)), (49, I (.z 0)), (50, I (.z 0))]
abbrev zh6 : List (Nat × XV) := [(1, .fn 33 [.ptr 1 0] []), (5, .ptr 5 0), (6, .raw 3), (7, .map 9), (25, .raw 3), (26, I (.v 0)), (27, I (.v 1))]
abbrev zh7 : List MI := [.blk 0 [.raw 0, .map 2, .map 3, .lit (.slice none 0 0), .map 4] 306, .asr 0, .asr 1, .asr 2, .asr 3]
abbrev zh8 : List (Nat × XV) := [(15, .fn 154 [] [.ptr 3 0]), (0, .ptr 0 0), (2, I (.v 0)), (3, I (.v 1)), (9, .ptr 2 0)]
abbrev zh9 : List (Nat × XV) := [(7, .map 9), (12, .ptr 10 0), (72, .raw 3), (73, I (.v 2)), (74, I (.v 3))]
abbrev zh10 : List XV := [.raw 4, .map 6, .map 7, .lit (.slice none 0 0), .map 8]
abbrev zh11 : List XV := [.raw 1, .map 2, .map 3, .lit (.slice none 0 0), .map 4]
abbrev zh12 : List XV := [.raw 2, .map 6, .map 7, .lit (.slice none 0 0), .map 8]
abbrev zh13 : List XV := [.raw 1, .map 6, .map 7, .lit (.slice none 0 0), .map 8]
theorem qh0 {P : Prop} (h : P := by first | omega | (and_intros <;> intros <;> and_intros <;> first | omega | assumption | (exfalso; simp only [there_get] at *; simp_all; done) | exact ids_len _ | exact liv_len _ | (exfalso; cases cd2; done) | (simp at *; omega) | (simp_all; done) | (simp_all; omega))) : P := h
theorem qh1 {P : Prop} (h : P := by first | omega | (and_intros <;> intros <;> and_intros <;> first | omega | assumption | exact ids_len _ | exact liv_len _ | (rw [firstAx_len]; omega) | exact axi_0 | exact axi_step hi.2 (by omega) | exact axi_end hi.2 | exact firstAx_nodup _ | (rw [axi_end hi.2]; exact (first_ok (by omega)).1) | (rw [axi_end hi.2]; exact (first_ok (by omega)).2.1) | (rw [axi_end hi.2]; exact (first_ok (by omega)).2.2.1) | (rw [hi]; exact (first_ok (by omega)).1) | (rw [hi]; exact (first_ok (by omega)).2.1) | (rw [hi]; exact (first_ok (by omega)).2.2.1) | (simp only [List.length_append, List.length_cons, List.length_nil]; omega) | (simp at *; omega) | (simp_all; done) | (simp_all; omega))) : P := h
theorem qh2 {P : Prop} (h : P := by first | trivial | omega | (and_intros <;> intros <;> and_intros <;> first | trivial | omega | assumption | (simp at *; omega) | (simp_all; done) | (simp_all; omega))) : P := h
abbrev w63Q (_Γ : Glob) (_P _W : Nat) (_f : SV) (_T _H _B : Nat) (L : List IdL) (l : List Asrt) (Zq : Hp) (vq : SV) (hq : Hp) : Prop := ∃ R : Nat, (True) ∧ vq = .ptr R 0 ∧ St Zq (axA R (L.map fun x => (x, true)) :: l) hq
noncomputable abbrev w63C (Γ : Glob) (P W : Nat) (f : SV) (T H B : Nat) (L : List IdL) (Z0 : Hp) (l : List Asrt) : Cx := fnC Tryz.prog Γ Tryz.f116 2 [] (subA Z0 :: l) (PostZ Z0 (w63Q Γ P W f T H B L l))
theorem w63_l1 (Γ : Glob) [Mute Γ] (P W : Nat) (f : SV) (T H B : Nat) (L : List IdL) (h1 : L.Nodup ∧ ((0, 0) : IdL) ∉ L ∧ (L.length : Int) ≤ 1000) (P10 : Nat) (f10 : SV) (T10 H10 B10 : Nat) (o1 : SV) (bk9 : Nat) (_i : Int) (P200 : Nat) {Z0 : Hp} {l : List Asrt} : ∀ (m : Nat) (Z : Hp) (i : Int) (_hi : 0 ≤ i ∧ i ≤ (L.length : Int)) (_hm : ((L.length : Int) - i).toNat < m), den (w63C Γ P W f T H B L Z0 l) (.stop [0, 1, 0, 1, 1, 1, 1, 1, 1, 1, 1, 1] zh9 zh2) ⟨4, 0, 0, 5, 11, 21⟩ (va { i := [(L.length : Int), i, (L.length : Int), i], r := [f, f, f10, o1, f10], n := [P, W, T, H, B, P10, T10, H10, B10, bk9, P200], a := [lsA 25 2 idE (oneS f) L, mpA idK bbE T (thereOf L), mpA idK slE H [], mpA idK bbE B [], lsA 25 2 idE (oneS f) L, mpA idK bbE T (thereOf L), mpA idK slE H [], mpA idK bbE B [], lsA 25 2 idE (oneS f10) L, mpA idK bbE T10 (thereOf L), mpA idK slE H10 [], mpA idK bbE B10 [], lsA 25 2 idE (oneS f10) L, mpA idK bbE T10 (thereOf L), mpA idK slE H10 [], mpA idK bbE B10 [], lsA 25 2 idE (oneS o1) L, lsA 25 2 idE (oneS o1) L, axA P200 (L.map fun x => (x, true)), mpA idK bbE bk9 [], mpA idK bbE bk9 []] }) Z := by
  intro m
  induction m with
  | zero => intros; omega
  | succ m ih =>
    intro Z i hi hm
    refine sx_loop [0, 1, 0, 1, 1, 1, 1, 1, 1, 1, 1, 1] zh9 zh2 [] ⟨4, 0, 0, 5, 11, 21⟩ (.fork (.lt (.v 3) (.v 2)) (.row (.idxA 43 (.raw 3) (I (.v 3))) [.asr 17] (.raw 5) ⟨4, 0, 0, 6, 11, 21⟩ <| .row (.load 25 (.raw 5)) [.asr 17] (.agg [I (.v 4), I (.v 5)]) ⟨6, 0, 0, 6, 11, 21⟩ <| .new <| .row (.look 87 (.map 9) (.agg [I (.v 4), I (.v 5)]) false) [.asr 20] (.bool (.bv 0)) ⟨6, 0, 1, 6, 12, 21⟩ <| .fork (.bv 0) (.no) <| .vc (xI (.add (.v 3) (.z 1))) <| .stop [0, 1, 0, 1, 1, 1, 1, 1, 1, 1, 1, 1] [(7, .map 9), (12, .ptr 10 0), (72, .raw 3), (73, I (.v 2)), (74, I (.add (.v 3) (.z 1)))] zh2) <| .ret (.ptr 10 0) [.asr 18]) 100000 (by kernel_rfl) (fun _ h => by cases h) ?_
    refine d_if (fun (cd1 : i < (L.length : Int)) => ?_) (fun (cd1 : ¬ (i < (L.length : Int))) => ?_)
    · refine d_row { r := [(elP (oneS o1) (Int.toNat i * 2))] } True (fun l h hs => ls_idx (m := l) (h := h) (i := i) rfl rfl hs qh0 qh0) fun _ => ?_
      refine d_row { i := [(((lget L i)).1), (((lget L i)).2)] } True (fun l h hs => ls_load (m := l) (h := h) (i := i) rfl rfl hs qh0 qh0) fun _ => ?_
      refine d_new fun bk11 => ?_
      refine d_row { b := [(mget [] ((((lget L i)).1), (((lget L i)).2)))] } True (fun l h hs => mp_get (m := l) (h := h) (kc := idK) (ve := bbE) (L := []) (k := ((((lget L i)).1), (((lget L i)).2))) rfl idK_key rfl rfl hs) fun _ => ?_
      refine d_if (fun (cd2 : (mget [] ((((lget L i)).1), (((lget L i)).2))) = true) => ?_) (fun (cd2 : ¬ ((mget [] ((((lget L i)).1), (((lget L i)).2))) = true)) => ?_)
      · exact d_no qh0
      · refine d_vc (show I6 (i + 1) from qh0) ?_
        exact d_stop (ih _ (i + 1) qh0 qh0) rfl rfl
    · exact d_retZ fun h hs => ⟨P200, qh2, by first | rfl | (show (.ptr P200 0 : SV) = _; simp_all), hs⟩
theorem w63_l2 (Γ : Glob) [Mute Γ] (P W : Nat) (f : SV) (T H B : Nat) (L : List IdL) (h1 : L.Nodup ∧ ((0, 0) : IdL) ∉ L ∧ (L.length : Int) ≤ 1000) (P10 : Nat) (f10 : SV) (T10 H10 B10 : Nat) (o1 : SV) (bk9 : Nat) (i : Int) {Z0 : Hp} {l : List Asrt} : ∀ (m : Nat) (Z : Hp)  (_hi : True) (_hm : 0 < m), den (w63C Γ P W f T H B L Z0 l) (.stop [0, 1, 0, 1, 1, 1, 1, 1, 1, 1] zh5 zh1) ⟨2, 0, 0, 5, 10, 17⟩ (va { i := [(L.length : Int), i], r := [f, f, f10, o1, f10], n := [P, W, T, H, B, P10, T10, H10, B10, bk9], a := [lsA 25 2 idE (oneS f) L, mpA idK bbE T (thereOf L), mpA idK slE H [], mpA idK bbE B [], lsA 25 2 idE (oneS f) L, mpA idK bbE T (thereOf L), mpA idK slE H [], mpA idK bbE B [], lsA 25 2 idE (oneS f10) L, mpA idK bbE T10 (thereOf L), mpA idK slE H10 [], mpA idK bbE B10 [], lsA 25 2 idE (oneS f10) L, mpA idK bbE T10 (thereOf L), mpA idK slE H10 [], mpA idK bbE B10 [], lsA 25 2 idE (oneS o1) L] }) Z := by
  intro m
  induction m with
  | zero => intros; omega
  | succ m ih =>
    intro Z  hi hm
    refine sx_loop [0, 1, 0, 1, 1, 1, 1, 1, 1, 1] zh5 zh1 [] ⟨2, 0, 0, 5, 10, 17⟩ (.call 181 [.raw 3] [.asr 16] (.ptr 10 0) [.asr 17, .asr 18] ⟨2, 0, 0, 5, 11, 19⟩ <| .row (.len 43 (.raw 3)) [.asr 17] (I (.v 2)) ⟨3, 0, 0, 5, 11, 19⟩ <| .swap [.obj 9 (.map [] 0)] [.asr 19] ⟨3, 0, 0, 5, 11, 20⟩ <| .stop [0, 1, 0, 1, 1, 1, 1, 1, 1, 1, 1, 1] [(7, .map 9), (12, .ptr 10 0), (72, .raw 3), (73, I (.v 2)), (74, I (.z 0))] [.asr 19, .asr 17, .asr 18, .blk 5 zh10 306, .asr 12, .asr 13, .asr 14, .asr 15, .blk 0 zh11 306, .asr 4, .asr 5, .asr 6, .asr 7]) 100000 (by kernel_rfl) (fun _ h => by cases h) ?_
    refine d_call (α := Nat) (fun (P200 : Nat) => { n := [P200], a := [lsA 25 2 idE (oneS o1) L, axA P200 (L.map fun x => (x, true))] }) (fun (P200 : Nat) => True) (fun l h hs => w1r (h := h) (l := l) Γ o1 L qh0 hs) fun Z P200 qd200 => ?_
    refine d_row { i := [(L.length : Int)] } True (fun l h hs => ls_len (m := l) (h := h) rfl (fun _ => rfl) hs) fun _ => ?_
    refine d_swap (α := Unit) (fun (_ : Unit) => { a := [mpA idK bbE bk9 []] }) (fun (_ : Unit) => True) (fun l h hs => ⟨(), ⟨trivial, mp_new (hs) (m := l) (h := h)⟩⟩) fun _ qs201 => ?_
    exact d_stop (w63_l1 Γ P W f T H B L h1 P10 f10 T10 H10 B10 o1 bk9 i P200 _ _ 0 qh0 (Nat.lt_succ_self _)) rfl rfl
theorem w63_l3 (Γ : Glob) [Mute Γ] (P W : Nat) (f : SV) (T H B : Nat) (L : List IdL) (h1 : L.Nodup ∧ ((0, 0) : IdL) ∉ L ∧ (L.length : Int) ≤ 1000) (P10 : Nat) (f10 : SV) (T10 H10 B10 : Nat) (o1 : SV) (bk9 : Nat) {Z0 : Hp} {l : List Asrt} : ∀ (m : Nat) (Z : Hp) (i : Int) (_hi : 0 ≤ i ∧ i ≤ (L.length : Int)) (_hm : ((L.length : Int) - i).toNat < m), den (w63C Γ P W f T H B L Z0 l) (.stop [0, 1, 0, 1, 1, 1, 1, 1, 1] zh6 zh1) ⟨2, 0, 0, 5, 10, 17⟩ (va { i := [(L.length : Int), i], r := [f, f, f10, o1, f10], n := [P, W, T, H, B, P10, T10, H10, B10, bk9], a := [lsA 25 2 idE (oneS f) L, mpA idK bbE T (thereOf L), mpA idK slE H [], mpA idK bbE B [], lsA 25 2 idE (oneS f) L, mpA idK bbE T (thereOf L), mpA idK slE H [], mpA idK bbE B [], lsA 25 2 idE (oneS f10) L, mpA idK bbE T10 (thereOf L), mpA idK slE H10 [], mpA idK bbE B10 [], lsA 25 2 idE (oneS f10) L, mpA idK bbE T10 (thereOf L), mpA idK slE H10 [], mpA idK bbE B10 [], lsA 25 2 idE (oneS o1) L] }) Z := by
  intro m
  induction m with
  | zero => intros; omega
  | succ m ih =>
    intro Z i hi hm
    refine sx_loop [0, 1, 0, 1, 1, 1, 1, 1, 1] zh6 zh1 [] ⟨2, 0, 0, 5, 10, 17⟩ (.fork (.lt (.v 1) (.v 0)) (.row (.idxA 43 (.raw 3) (I (.v 1))) [.asr 16] (.raw 5) ⟨2, 0, 0, 6, 10, 17⟩ <| .row (.load 25 (.raw 5)) [.asr 16] (.agg [I (.v 2), I (.v 3)]) ⟨4, 0, 0, 6, 10, 17⟩ <| .new <| .row (.look 87 (.map 6) (.agg [I (.v 2), I (.v 3)]) false) [.asr 13] (.bool (.bv 0)) ⟨4, 0, 1, 6, 11, 17⟩ <| .fork (.bv 0) (.no) <| .vc (xI (.add (.v 1) (.z 1))) <| .stop [0, 1, 0, 1, 1, 1, 1, 1, 1] [(1, .fn 33 [.ptr 1 0] []), (5, .ptr 5 0), (6, .raw 3), (7, .map 9), (25, .raw 3), (26, I (.v 0)), (27, I (.add (.v 1) (.z 1)))] zh1) <| .stop [0, 1, 0, 1, 1, 1, 1, 1, 1, 1] zh5 zh1) 100000 (by kernel_rfl) (fun _ h => by cases h) ?_
    refine d_if (fun (cd1 : i < (L.length : Int)) => ?_) (fun (cd1 : ¬ (i < (L.length : Int))) => ?_)
    · refine d_row { r := [(elP (oneS o1) (Int.toNat i * 2))] } True (fun l h hs => ls_idx (m := l) (h := h) (i := i) rfl rfl hs qh0 qh0) fun _ => ?_
      refine d_row { i := [(((lget L i)).1), (((lget L i)).2)] } True (fun l h hs => ls_load (m := l) (h := h) (i := i) rfl rfl hs qh0 qh0) fun _ => ?_
      refine d_new fun bk10 => ?_
      refine d_row { b := [(mget (thereOf L) ((((lget L i)).1), (((lget L i)).2)))] } True (fun l h hs => mp_get (m := l) (h := h) (kc := idK) (ve := bbE) (L := (thereOf L)) (k := ((((lget L i)).1), (((lget L i)).2))) rfl idK_key rfl rfl hs) fun _ => ?_
      refine d_if (fun (cd2 : (mget (thereOf L) ((((lget L i)).1), (((lget L i)).2))) = true) => ?_) (fun (cd2 : ¬ ((mget (thereOf L) ((((lget L i)).1), (((lget L i)).2))) = true)) => ?_)
      · exact d_no qh0
      · refine d_vc (show I6 (i + 1) from qh0) ?_
        exact d_stop (ih _ (i + 1) qh0 qh0) rfl rfl
    · exact d_stop (w63_l2 Γ P W f T H B L h1 P10 f10 T10 H10 B10 o1 bk9 i _ _  qh0 (Nat.lt_succ_self _)) rfl rfl
theorem w63r (Γ : Glob) [Mute Γ] (P W : Nat) (f : SV) (T H B : Nat) (L : List IdL) (h1 : L.Nodup ∧ ((0, 0) : IdL) ∉ L ∧ (L.length : Int) ≤ 1000) {Z0 h : Hp} {l : List Asrt} (hs : St Z0 (own P (.cells [(oneS f), .map T, .map H, .lit (.slice none 0 0), .map B] 306) :: lsA 25 2 idE (oneS f) L :: mpA idK bbE T (thereOf L) :: mpA idK slE H [] :: mpA idK bbE B [] :: l) h) : Runs Tryz.prog Γ (.call 116 [.ptr P 0, .func (.func 33) [.ptr W 0] []] h) fun oq => ∃ Z', Sub Z0 Z' ∧ w63Q Γ P W f T H B L l Z' oq.v oq.hp := by
  refine sx_fnZ (Q := w63Q Γ P W f T H B L l) Tryz.f116 Tryz.func116 (by kernel_rfl) [.ptr 0 0, .fn 33 [.ptr 1 0] []] zh7 ⟨0, 0, 0, 1, 5, 4⟩ (va { r := [f], n := [P, W, T, H, B], a := [lsA 25 2 idE (oneS f) L, mpA idK bbE T (thereOf L), mpA idK slE H [], mpA idK bbE B []] }) (.call 186 [.ptr 0 0] zh7 (.ptr 5 0) [.blk 0 zh11 306, .asr 4, .asr 5, .asr 6, .asr 7, .blk 5 zh12 306, .asr 8, .asr 9, .asr 10, .asr 11] ⟨0, 0, 0, 3, 9, 12⟩ <| .call 187 [.ptr 5 0] [.blk 5 zh12 306, .asr 8, .asr 9, .asr 10, .asr 11] (.raw 3) [.blk 5 zh10 306, .asr 12, .asr 13, .asr 14, .asr 15, .asr 16] ⟨0, 0, 0, 5, 9, 17⟩ <| .new <| .row (.len 43 (.raw 3)) [.asr 16] (I (.v 0)) ⟨1, 0, 0, 5, 10, 17⟩ <| .stop [0, 1, 0, 1, 1, 1, 1, 1, 1] [(1, .fn 33 [.ptr 1 0] []), (5, .ptr 5 0), (6, .raw 3), (7, .map 9), (25, .raw 3), (26, I (.v 0)), (27, I (.z 0))] zh1) 100000 (by kernel_rfl) hs rfl ?_
  refine d_call (α := Nat × SV × Nat × Nat × Nat) (fun (⟨P10, f10, T10, H10, B10⟩ : Nat × SV × Nat × Nat × Nat) => { r := [f, f10], n := [P10, T10, H10, B10], a := [lsA 25 2 idE (oneS f) L, mpA idK bbE T (thereOf L), mpA idK slE H [], mpA idK bbE B [], lsA 25 2 idE (oneS f10) L, mpA idK bbE T10 (thereOf L), mpA idK slE H10 [], mpA idK bbE B10 []] }) (fun (⟨P10, f10, T10, H10, B10⟩ : Nat × SV × Nat × Nat × Nat) => True) (fun l h hs => (w43r (h := h) (l := l) Γ P f T H B L qh0 hs).mono fun _ ⟨Z1, z1, P10, f10, T10, H10, B10, hq_, he_, hs_⟩ => ⟨Z1, z1, ⟨P10, f10, T10, H10, B10⟩, hq_, he_, hs_⟩) fun Z ⟨P10, f10, T10, H10, B10⟩ qd0 => ?_
  refine d_call (α := SV) (fun (o1 : SV) => { r := [o1, f10], a := [lsA 25 2 idE (oneS f10) L, mpA idK bbE T10 (thereOf L), mpA idK slE H10 [], mpA idK bbE B10 [], lsA 25 2 idE (oneS o1) L] }) (fun (o1 : SV) => True) (fun l h hs => w39r (h := h) (l := l) Γ P10 f10 T10 H10 B10 L qh0 hs) fun Z o1 qd1 => ?_
  refine d_new fun bk9 => ?_
  refine d_row { i := [(L.length : Int)] } True (fun l h hs => ls_len (m := l) (h := h) rfl (fun _ => rfl) hs) fun _ => ?_
  exact d_stop (w63_l3 Γ P W f T H B L h1 P10 f10 T10 H10 B10 o1 bk9 _ _ 0 qh0 (Nat.lt_succ_self _)) rfl rfl
theorem w64a (n : Int) : (idsOf (firstAx n)).map (fun x => (x, true)) = firstAx n := by rw [firstAx_ids, firstAx]
theorem first_ok {n : Int} (h : 0 ≤ n ∧ n ≤ 1000) : (idsOf (firstAx n)).Nodup ∧ ((0, 0) : IdL) ∉ idsOf (firstAx n) ∧ ((idsOf (firstAx n)).length : Int) ≤ 1000 ∧ ((firstAx n).length : Int) ≤ 1000 := by
  rw [firstAx_ids, first_len, firstAx_len]
  exact ⟨first_nodup _, first_no0 _, by omega, by omega⟩
structure AxI (n : Int) (k : Nat) (X : List IdL) : Prop where
  a : X = (idsOf (firstAx n)).take k
theorem axi_0 {n : Int} : AxI n 0 [] := ⟨rfl⟩
theorem axi_step {n : Int} {k : Nat} {X : List IdL} (w : AxI n k X) (h : k < (firstAx n).length) : AxI n (k + 1) (X ++ [((lget (idsOf (firstAx n)) (k : Int)).1, (lget (idsOf (firstAx n)) (k : Int)).2)]) := by
  have h1 := take_snoc (L := idsOf (firstAx n)) (i := k) (by omega) (by simp [idsOf]; omega)
  rw [show ((k : Int) + 1).toNat = k + 1 by omega, Int.toNat_natCast] at h1
  exact ⟨by rw [h1, ← w.a]⟩
theorem axi_end {n : Int} {X : List IdL} (w : AxI n (firstAx n).length X) : X = idsOf (firstAx n) := by
  rw [w.a, List.take_of_length_le (by simp [idsOf])]
abbrev w65Q (_Γ : Glob) (P R : Nat) (_x _y : Int) (a r0 : Int) (c0 n : Int) (l : List Asrt) (Zq : Hp) (vq : SV) (hq : Hp) : Prop := ∃ R2 : Nat, (True) ∧ vq = .ptr R2 0 ∧ St Zq (own P (.cells [.lit (.map none), .lit (.map none), .lit (.map none), iV a, iV r0, iV c0, .lit (.slice none 0 0), .lit (.map none), .lit (.map none), .lit (.map none), .lit (.pointer none), bV false] 89) :: axA R (firstAx n) :: axA R2 (firstAx n) :: l) hq
noncomputable abbrev w65C (Γ : Glob) (P R : Nat) (x y : Int) (a r0 : Int) (c0 n : Int) (Z0 : Hp) (l : List Asrt) : Cx := fnC Tryz.prog Γ Tryz.f59 4 [] (subA Z0 :: l) (PostZ Z0 (w65Q Γ P R x y a r0 c0 n l))
theorem w65_l1 (Γ : Glob) [Mute Γ] (P R : Nat) (x y : Int) (a r0 : Int) (c0 n : Int) (h1 : 0 ≤ n ∧ n ≤ 1000) (_h2 : ((firstAx n).length : Int) = n) (bk2 C0 : Nat) (ids : SV) (X : List IdL) (dm4 P50 : Nat) (f50 : SV) (T50 H50 B50 : Nat) {Z0 : Hp} {l : List Asrt} : ∀ (m : Nat) (Z : Hp)  (_hi : X = idsOf (firstAx n)) (_hm : 0 < m), den (fnC Tryz.prog Γ Tryz.f59 4 [dm4] (subA Z0 :: l) (PostZ Z0 (w65Q Γ P R x y a r0 c0 n l))) (.stop [0, 1, 0, 1, 1, 1, 1] zh4 zh0) ⟨5, 0, 0, 2, 9, 8⟩ (va { i := [x, y, a, r0, c0], r := [ids, f50], n := [P, R, bk2, C0, dm4, P50, T50, H50, B50], a := [axA R (firstAx n), lsA 25 2 idE (oneS (.lit (.slice none 0 0))) [], lsA 25 2 idE (oneS ids) X, lsA 25 2 idE (oneS ids) X, lsA 25 2 idE (oneS f50) X, mpA idK bbE T50 (thereOf X), mpA idK slE H50 [], mpA idK bbE B50 []] }) Z := by
  intro m
  induction m with
  | zero => intros; omega
  | succ m ih =>
    intro Z  hi hm
    haveI : Mute (fnC Tryz.prog Γ Tryz.f59 4 [dm4] (subA Z0 :: l) (PostZ Z0 (w65Q Γ P R x y a r0 c0 n l))).Γ := (inferInstance : Mute Γ)
    refine gx_loop fnC_root [0, 1, 0, 1, 1, 1, 1] zh4 zh0 [] ⟨5, 0, 0, 2, 9, 8⟩ [4] (.call 116 [.ptr 5 0, .fn 33 [.ptr 0 0] []] [.blk 5 zh13 306, .asr 4, .asr 5, .asr 6, .asr 7] (.ptr 9 0) [.asr 8] ⟨5, 0, 0, 2, 10, 9⟩ <| .ret (.ptr 9 0) [.blk 0 zh3 89, .asr 0, .asr 8]) 100000 (by kernel_rfl) rfl (fun _ h => by cases h) ?_
    refine d_call (α := Nat) (fun (R200 : Nat) => { n := [R200], a := [axA R200 (X.map fun x => (x, true))] }) (fun (R200 : Nat) => True) (fun l h hs => w63r (h := h) (l := l) Γ P50 P f50 T50 H50 B50 X qh1 hs) fun Z R200 qd200 => ?_
    exact d_retZ fun h hs => ⟨R200, qh2, by first | rfl | (show (.ptr R200 0 : SV) = _; simp_all), by first | exact hs | (rw [hi, w64a] at hs; exact hs)⟩
theorem w65_r2 (Γ : Glob) [Mute Γ] (P R : Nat) (x y : Int) (a r0 : Int) (c0 n : Int) (h1 : 0 ≤ n ∧ n ≤ 1000) (h2 : ((firstAx n).length : Int) = n) (bk2 C0 : Nat) {Z0 Z : Hp} {l : List Asrt} (ids : SV) (X : List IdL) (hi : X.length = 0 ∧ AxI n 0 X) : den (w65C Γ P R x y a r0 c0 n Z0 l) (.stop [0, 1, 0, 1, 1] zh8 [.blk 3 [.ptr 1 0] 94, .asr 0, .asr 2, .blk 2 [.raw 0] 43, .blk 0 zh3 89]) ⟨5, 0, 0, 1, 4, 3⟩ (va { i := [x, y, a, r0, c0], r := [ids], n := [P, R, bk2, C0], a := [axA R (firstAx n), lsA 25 2 idE (oneS (.lit (.slice none 0 0))) [], lsA 25 2 idE (oneS ids) X] }) Z := by
  haveI : Mute (w65C Γ P R x y a r0 c0 n Z0 l).Γ := (inferInstance : Mute Γ)
  refine gx_rangeP (β := Unit) (p := [0, 1, 0, 1, 1]) (la := [own C0 (.cells [.ptr R 0] 94), axA R (firstAx n)]) (lb := []) rfl (by kernel_rfl) 15 (.fn 154 [] [.ptr 3 0]) (by kernel_rfl) rfl (w8s Γ C0 R (firstAx n) qh1 qh1 qh1) [lsA 25 2 idE (oneS ids) X, own bk2 (.cells [(oneS ids)] 43), own P (.cells [.lit (.map none), .lit (.map none), .lit (.map none), iV a, iV r0, iV c0, .lit (.slice none 0 0), .lit (.map none), .lit (.map none), .lit (.map none), .lit (.pointer none), bV false] 89)] (fun (⟨ids, X⟩ : SV × List IdL) => [lsA 25 2 idE (oneS ids) X, own bk2 (.cells [(oneS ids)] 43), own P (.cells [.lit (.map none), .lit (.map none), .lit (.map none), iV a, iV r0, iV c0, .lit (.slice none 0 0), .lit (.map none), .lit (.map none), .lit (.map none), .lit (.pointer none), bV false] 89)]) (fun (k : Nat) (⟨ids, X⟩ : SV × List IdL) => X.length = k ∧ AxI n k X) .ret rfl (fun _ => []) (fun _ => False) (fun _ _ s => s) (fun _ _ _ s => ⟨(ids, X), hi, s⟩) ?_ ?_ (fun _ _ h => h.elim)
  · intro k hk ⟨ids, X⟩ hi Z B l tm hs
    refine gx_round (fr := zh8) (c := ⟨7, 0, 1, 1, 4, 3⟩) (ρ := va { i := [x, y, a, r0, c0, ((lget (idsOf (firstAx n)) (k : Int)).1), ((lget (idsOf (firstAx n)) (k : Int)).2)], b := [(lget (livOf (firstAx n)) (k : Int))], r := [ids], n := [P, R, bk2, C0], a := [axA R (firstAx n), lsA 25 2 idE (oneS (.lit (.slice none 0 0))) [], lsA 25 2 idE (oneS ids) X] }) [.agg [I (.v 5), I (.v 6)], .bool (.bv 0)] (mem := [.asr 2, .blk 2 [.raw 0] 43, .blk 0 zh3 89]) (win := []) (N := 100000) (ta := .new <| .fin .normal [(9, .ptr 2 0), (10, .ptr 4 0)] [.blk 4 [I (.v 5), I (.v 6)] 25, .asr 2, .blk 2 [.raw 0] 43, .blk 0 zh3 89]) (by kernel_rfl) (fun _ h => by cases h) rfl (by kernel_rfl) (by kernel_rfl) (by rfl) hs rfl ?_
    refine d_new fun bk4 => ?_
    refine d_asg (win := []) (tb := .new <| .eff (.app [43, 43] (.raw 0) (.slice 5 0 1 1)) [.asr 2, .blk 5 [I (.v 5), I (.v 6)] 25] (.raw 1) [.asr 3] ⟨7, 0, 1, 2, 6, 4⟩ <| .fin .normal [] [.asr 3, .blk 2 [.raw 1] 43, .blk 0 zh3 89]) (N := 100000) (by kernel_rfl) (fun _ h => by cases h) fun l => ?_
    refine d_new fun bk5 => ?_
    refine d_eff (fun (v0 : SV) => { r := [v0], a := [lsA 25 2 idE (oneS v0) (X ++ [(((lget (idsOf (firstAx n)) (k : Int)).1), ((lget (idsOf (firstAx n)) (k : Int)).2))])] }) (fun _ => True) (fun l h hs => ls_push (m := l) (h := h) rfl idE_info (by decide) hs (by first | rfl | rfl) rfl rfl qh1) fun v0 _ => ?_
    exact d_next (v0, (X ++ [(((lget (idsOf (firstAx n)) (k : Int)).1), ((lget (idsOf (firstAx n)) (k : Int)).2))])) qh1 rfl
  · intro Z ⟨ids, X⟩ hi dm4
    refine goOnP (C := w65C Γ P R x y a r0 c0 n Z0 l) fnC_root (N := 100000) (fr' := zh8) (mem := [.obj 4 (.deferred true), .blk 3 [.ptr 1 0] 94, .asr 0, .asr 2, .blk 2 [.raw 0] 43, .blk 0 zh3 89]) (win := []) (c := ⟨5, 0, 0, 1, 5, 3⟩) (mks := [4]) (t := .call 113 [.raw 0] [.asr 2] (.ptr 5 0) [.asr 3, .blk 5 zh13 306, .asr 4, .asr 5, .asr 6, .asr 7] ⟨5, 0, 0, 2, 9, 8⟩ <| .stop [0, 1, 0, 1, 1, 1, 1] zh4 zh0) (va { i := [x, y, a, r0, c0], r := [ids], n := [P, R, bk2, C0, dm4], a := [axA R (firstAx n), lsA 25 2 idE (oneS (.lit (.slice none 0 0))) [], lsA 25 2 idE (oneS ids) X] }) (by kernel_rfl) rfl rfl rfl (fun _ h => by cases h) ?_
    show den (fnC Tryz.prog Γ Tryz.f59 4 [dm4] (subA Z0 :: l) (PostZ Z0 (w65Q Γ P R x y a r0 c0 n l))) _ _ _ _
    refine d_call (α := Nat × SV × Nat × Nat × Nat) (fun (⟨P50, f50, T50, H50, B50⟩ : Nat × SV × Nat × Nat × Nat) => { r := [f50], n := [P50, T50, H50, B50], a := [lsA 25 2 idE (oneS ids) X, lsA 25 2 idE (oneS f50) X, mpA idK bbE T50 (thereOf X), mpA idK slE H50 [], mpA idK bbE B50 []] }) (fun (⟨P50, f50, T50, H50, B50⟩ : Nat × SV × Nat × Nat × Nat) => True) (fun l h hs => (w37r (h := h) (l := l) Γ ids X qh1 hs).mono fun _ ⟨Z1, z1, P50, f50, T50, H50, B50, hq_, he_, hs_⟩ => ⟨Z1, z1, ⟨P50, f50, T50, H50, B50⟩, hq_, he_, hs_⟩) fun Z ⟨P50, f50, T50, H50, B50⟩ qd50 => ?_
    exact d_stop (w65_l1 Γ P R x y a r0 c0 n h1 h2 bk2 C0 ids X dm4 P50 f50 T50 H50 B50 _ _  qh1 (Nat.lt_succ_self _)) rfl rfl
theorem w65r (Γ : Glob) [Mute Γ] (P R : Nat) (x y : Int) (a r0 : Int) (c0 n : Int) (h1 : 0 ≤ n ∧ n ≤ 1000) (h2 : ((firstAx n).length : Int) = n) {Z0 h : Hp} {l : List Asrt} (hs : St Z0 (own P (.cells [.lit (.map none), .lit (.map none), .lit (.map none), iV a, iV r0, iV c0, .lit (.slice none 0 0), .lit (.map none), .lit (.map none), .lit (.map none), .lit (.pointer none), bV false] 89) :: axA R (firstAx n) :: l) h) : Runs Tryz.prog Γ (.call 59 [.ptr P 0, .ptr R 0, iV x, iV y] h) fun oq => ∃ Z', Sub Z0 Z' ∧ w65Q Γ P R x y a r0 c0 n l Z' oq.v oq.hp := by
  refine sx_fnZ (Q := w65Q Γ P R x y a r0 c0 n l) Tryz.f59 Tryz.func59 (by kernel_rfl) [.ptr 0 0, .ptr 1 0, I (.v 0), I (.v 1)] [.blk 0 zh3 89, .asr 0] ⟨5, 0, 0, 0, 2, 1⟩ (va { i := [x, y, a, r0, c0], n := [P, R], a := [axA R (firstAx n)] }) (.new <| .call 75 [.ptr 1 0] [] (.fn 154 [] [.ptr 3 0]) [.blk 3 [.ptr 1 0] 94] ⟨5, 0, 0, 0, 4, 1⟩ <| .swap [] [.asr 1] ⟨5, 0, 0, 0, 4, 2⟩ <| .stop [0, 1, 0, 1, 1] zh8 [.blk 3 [.ptr 1 0] 94, .asr 0, .asr 1, .blk 2 [.lit (.slice none 0 0)] 43, .blk 0 zh3 89]) 100000 (by kernel_rfl) hs rfl ?_
  refine d_new fun bk2 => ?_
  refine d_call (α := Nat) (fun (C0 : Nat) => { n := [C0] }) (fun (C0 : Nat) => True) (fun l h hs => w9r (h := h) (l := l) Γ R  hs) fun Z C0 qd0 => ?_
  refine d_swap (α := Unit) (fun (_ : Unit) => { a := [lsA 25 2 idE (oneS (.lit (.slice none 0 0))) []] }) (fun (_ : Unit) => True) (fun l h hs => ⟨(), ⟨trivial, ls_nil (hs) (m := l) (h := h)⟩⟩) fun _ qs1 => ?_
  exact d_stop (w65_r2 Γ P R x y a r0 c0 n h1 h2 bk2 C0 (.lit (.slice none 0 0)) ([]) qh1) rfl rfl
open Go Go.Proofs.YtdhmljjpiainnaaGreatDoor.Ev
set_option maxRecDepth 20000
set_option maxHeartbeats 4000000
abbrev zi0 : List MI := [.blk 8 [.lit (.map none)] 86, .blk 0 [.lit (.map none), .lit (.map none), .lit (.map none), I (.v 9), I (.v 10), I (.v 11), .lit (.slice none 0 0), .lit (.map none), .lit (.map none), .lit (.map none), .lit (.pointer none), .bool (.bl true)] 89, .asr 4, .asr 5, .asr 2, .asr 3, .blk 1 [.ptr 6 0, .ptr 7 0, .ptr 4 0, .ptr 5 0] 98, .blk 4 [.lit (.map none)] 231, .blk 5 [.lit (.map none)] 241]
abbrev zi1 : List MI := [.blk 0 [.lit (.map none), .lit (.map none), .lit (.map none), I (.v 9), I (.v 10), I (.v 11), .lit (.slice none 0 0), .lit (.map none), .lit (.map none), .lit (.map none), .lit (.pointer none), .bool (.bl true)] 89, .asr 4, .asr 5, .asr 2, .asr 3, .blk 1 [.ptr 6 0, .ptr 7 0, .ptr 4 0, .ptr 5 0] 98, .blk 4 [.lit (.map none)] 231, .blk 5 [.lit (.map none)] 241]
abbrev zi2 : List MI := [.blk 0 [.lit (.map none), .lit (.map none), .lit (.map none), I (.v 0), I (.v 1), I (.v 2), .lit (.slice none 0 0), .lit (.map none), .lit (.map none), .lit (.map none), .lit (.pointer none), .bool (.bl true)] 89]
abbrev zi3 : List XV := [.lit (.map none), .lit (.map none), .lit (.map none), I (.v 0), I (.v 1), I (.v 2), .lit (.slice none 0 0), .lit (.map none), .lit (.map none), .lit (.map none), .lit (.pointer none), .bool (.bl false)]
abbrev zi4 : List XV := [.lit (.map none), .lit (.map none), .lit (.map none), I (.v 3), I (.v 4), I (.v 5), .lit (.slice none 0 0), .lit (.map none), .lit (.map none), .lit (.map none), .lit (.pointer none), .bool (.bl false)]
abbrev zi5 : List (Nat × XV) := [(0, .ptr 0 0), (3, .ptr 1 0), (89, .lit (.slice none 0 0)), (90, I (.z 0)), (91, I (.z 0))]
abbrev zi6 : List (Nat × XV) := [(0, .ptr 0 0), (3, .ptr 1 0), (52, .lit (.slice none 0 0)), (53, I (.z 0)), (54, I (.z 0))]
abbrev zi7 : List MI := [.blk 0 [.lit (.map none)] 85, .blk 1 [.lit (.slice none 0 0)] 111]
abbrev zi8 : List MI := [.blk 0 [.lit (.map none)] 86, .blk 1 [.lit (.slice none 0 0)] 148]
abbrev zi9 : List MI := [.asr 1, .blk 1 [.lit (.map none)] 85, .asr 0]
abbrev zi10 : List MI := [.asr 1, .blk 1 [.lit (.map none)] 86, .asr 0]
abbrev zi11 : List (Nat × XV) := [(6, .fn 190 [] [.ptr 0 0]), (2, .ptr 1 0)]
abbrev zi12 : List (Nat × XV) := [(6, .fn 129 [] [.ptr 0 0]), (2, .ptr 1 0)]
abbrev zi13 : List MI := [.blk 0 [.lit (.map none)] 85]
abbrev zi14 : List (Nat × XV) := [(0, .yield 0), (5, .ptr 2 0)]
abbrev zi15 : List MI := [.blk 0 [.lit (.map none)] 86]
abbrev zi16 : List MI := [.blk 1 [.lit (.map none)] 85]
abbrev zi17 : List MI := [.blk 8 [.lit (.map none)] 86]
theorem qi0 {P : Prop} (h : P := by first | trivial | omega | (and_intros <;> intros <;> and_intros <;> first | trivial | omega | assumption | (simp at *; omega) | (simp_all; done) | (simp_all; omega))) : P := h
theorem qi1 {P : Prop} (h : P := by first | rfl | (show (.lit (.slice none 0 0) : SV) = _; simp_all)) : P := h
theorem qi2 {P : Prop} (h : P := by first | omega | (and_intros <;> intros <;> and_intros <;> first | omega | assumption | (simp at *; omega) | (simp_all; done) | (simp_all; omega))) : P := h
theorem qi3 {P : Prop} (h : P := by first | omega | (and_intros <;> intros <;> and_intros <;> first | omega | assumption | exact ids_len _ | exact liv_len _ | exact cutN_rng _ | exact (cutN_rng _).1 | exact (cutN_rng _).2 | (rw [firstAx_len]; have := cutN_rng r0; have := cutN_rng c0; omega) | (simp at *; omega) | (simp_all; done) | (simp_all; omega))) : P := h
theorem runs_now {P : Program} {Γ : Glob} {t : Task} {N : Nat} {h : Hp} {v : SV} {Φ : Out → Prop} [Mute Γ] (e : (runO P ⟨Γ.tab, noAsk⟩ theMem N t).map (fun l => l.map fun o => (o.v, o.hp)) = some [(v, h)]) (hp : ∀ o : Out, o.v = v → o.hp = h → Φ o) : Runs P Γ t Φ := by
  rw [show (⟨Γ.tab, noAsk⟩ : Glob) = Γ from by rw [← Mute.mute (Γ := Γ)]] at e
  obtain ⟨l, h1, h2⟩ := Option.map_eq_some_iff.1 e
  refine ⟨N, l, fun n hn => runO_le hn t l h1, fun x hx => ?_⟩
  have := List.mem_map_of_mem (f := fun o : Out => (o.v, o.hp)) hx
  rw [h2, List.mem_singleton] at this
  obtain ⟨e1, e2⟩ := Prod.mk.inj this
  exact hp x e1 e2
abbrev w66Q (_Γ : Glob)  (l : List Asrt) (Zq : Hp) (vq : SV) (hq : Hp) : Prop := ∃ C : Nat, (True) ∧ vq = .func (.func 190) [] [.ptr C 0] ∧ St Zq (own C (.cells [.lit (.map none)] 85) :: l) hq
theorem w66r (Γ : Glob) [Mute Γ]   {Z0 h : Hp} {l : List Asrt} (hs : St Z0 (l) h) : Runs Tryz.prog Γ (.call 118 [.lit (.map none)] h) fun oq => ∃ Z', Sub Z0 Z' ∧ w66Q Γ  l Z' oq.v oq.hp := by
  refine sx_fnZ (Γ := Γ) (Q := w66Q Γ  l) Tryz.f118 Tryz.func118 (by kernel_rfl) [.lit (.map none)] [] {} (va {  }) (.new <| .ret (.fn 190 [] [.ptr 0 0]) zi13) 100000 (by kernel_rfl) hs rfl ?_
  refine d_new fun bk0 => ?_
  exact d_retZ fun h hs => ⟨bk0, qi0, by first | rfl | (show (.func (.func 190) [] [.ptr bk0 0] : SV) = _; simp_all), hs⟩
theorem w67_l1 (Γ : Glob) [Mute Γ] (C : Nat)  {Z0 : Hp} {B : Nat} {J0 : Asrt} {J : Nat → Asrt} {Q : Asrt} (h0 : ∀ Z l h, St Z ([] ++ J0 :: l) h → St Z (J 0 :: l) h) (_hr : Rounds Tryz.prog Γ B (0) (fun _k : Nat => [.agg [iV 0, iV 0, iV 0, iV 0]]) (fun _k : Nat => []) J Q) (bk2 : Nat) {l : List Asrt} : ∀ (m : Nat) (Z : Hp)  (_hi : True) (_hm : 0 < m), den (fnC Tryz.prog Γ Tryz.f190 2 [] (subA Z0 :: l) (PostZ Z0 (fun Z _ h => St Z ([own C (.cells [.lit (.map none)] 85)] ++ J (0) :: l) h ∨ St Z ([own C (.cells [.lit (.map none)] 85)] ++ Q :: l) h))) (.stop [0, 1] zi14 zi9) ⟨0, 0, 0, 0, 3, 2⟩ (va { n := [B, C, bk2], a := [J0, mnA bk2] }) Z := by
  intro m
  induction m with
  | zero => intros; omega
  | succ m ih =>
    intro Z  hi hm
    refine sx_loop [0, 1] zi14 zi9 [] ⟨0, 0, 0, 0, 3, 2⟩ (.eff (.next (.ptr 2 0) false) [.asr 1] (.tup [.bool (.bl false)]) [.asr 2] ⟨0, 0, 0, 0, 3, 3⟩ <| .swap [.asr 0] [.asr 3] ⟨0, 0, 0, 0, 3, 4⟩ <| .ret (.tup []) [.blk 1 [.lit (.map none)] 85, .asr 3]) 100000 (by kernel_rfl) (fun _ h => by cases h) ?_
    refine d_eff (fun (_ : Unit) => { a := [mnA bk2] }) (fun _ => True) (fun l h hs => mn_next (m := l) (h := h) hs) fun _ _ => ?_
    refine d_swap (α := Unit) (fun (_ : Unit) => { a := [jz J 0] }) (fun (_ : Unit) => True) (fun l h hs => ⟨(), ⟨trivial, h0 _ _ _ hs⟩⟩) fun _ qs100 => ?_
    exact d_retZ fun h hs => .inl (jz_end (la := [own C (.cells [.lit (.map none)] 85)]) qi2 hs)
theorem w67s (Γ : Glob) [Mute Γ] (C : Nat)  : SeqP Tryz.prog Γ 190 [] [.ptr C 0] (0) (fun _k : Nat => [.agg [iV 0, iV 0, iV 0, iV 0]]) (fun _k : Nat => []) [own C (.cells [.lit (.map none)] 85)] [] := by
  intro Z B J0 J Q l h h0 hr hs
  refine sx_fnZ (Q := fun Z _ h => St Z ([own C (.cells [.lit (.map none)] 85)] ++ J (0) :: l) h ∨ St Z ([own C (.cells [.lit (.map none)] 85)] ++ Q :: l) h) Tryz.f190 Tryz.func190 (by kernel_rfl) [.yield 0, .ptr 1 0] [.blk 1 [.lit (.map none)] 85, .asr 0] ⟨0, 0, 0, 0, 2, 1⟩ (va { n := [B, C], a := [J0] }) (.eff (.range 85 (.lit (.map none))) [] (.ptr 2 0) [.asr 1] ⟨0, 0, 0, 0, 3, 2⟩ <| .stop [0, 1] zi14 zi9) 100000 (by kernel_rfl) hs rfl ?_
  refine d_eff (fun (bk2 : Nat) => { n := [bk2], a := [mnA bk2] }) (fun _ => True) (fun l h hs => mn_new (m := l) (h := h) rfl hs) fun bk2 _ => ?_
  exact d_stop (w67_l1 Γ C h0 hr bk2 _ _  qi2 (Nat.lt_succ_self _)) rfl rfl
abbrev w68Q (_Γ : Glob)  (l : List Asrt) (Zq : Hp) (vq : SV) (hq : Hp) : Prop := ∃ C : Nat, (True) ∧ vq = .func (.func 129) [] [.ptr C 0] ∧ St Zq (own C (.cells [.lit (.map none)] 86) :: l) hq
theorem w68r (Γ : Glob) [Mute Γ]   {Z0 h : Hp} {l : List Asrt} (hs : St Z0 (l) h) : Runs Tryz.prog Γ (.call 64 [.lit (.map none)] h) fun oq => ∃ Z', Sub Z0 Z' ∧ w68Q Γ  l Z' oq.v oq.hp := by
  refine sx_fnZ (Γ := Γ) (Q := w68Q Γ  l) Tryz.f64 Tryz.func64 (by kernel_rfl) [.lit (.map none)] [] {} (va {  }) (.new <| .ret (.fn 129 [] [.ptr 0 0]) zi15) 100000 (by kernel_rfl) hs rfl ?_
  refine d_new fun bk0 => ?_
  exact d_retZ fun h hs => ⟨bk0, qi0, by first | rfl | (show (.func (.func 129) [] [.ptr bk0 0] : SV) = _; simp_all), hs⟩
theorem w69_l1 (Γ : Glob) [Mute Γ] (C : Nat)  {Z0 : Hp} {B : Nat} {J0 : Asrt} {J : Nat → Asrt} {Q : Asrt} (h0 : ∀ Z l h, St Z ([] ++ J0 :: l) h → St Z (J 0 :: l) h) (_hr : Rounds Tryz.prog Γ B (0) (fun _k : Nat => [sV ([] : List UInt8)]) (fun _k : Nat => []) J Q) (bk2 : Nat) {l : List Asrt} : ∀ (m : Nat) (Z : Hp)  (_hi : True) (_hm : 0 < m), den (fnC Tryz.prog Γ Tryz.f129 2 [] (subA Z0 :: l) (PostZ Z0 (fun Z _ h => St Z ([own C (.cells [.lit (.map none)] 86)] ++ J (0) :: l) h ∨ St Z ([own C (.cells [.lit (.map none)] 86)] ++ Q :: l) h))) (.stop [0, 1] zi14 zi10) ⟨0, 0, 0, 0, 3, 2⟩ (va { n := [B, C, bk2], a := [J0, mnA bk2] }) Z := by
  intro m
  induction m with
  | zero => intros; omega
  | succ m ih =>
    intro Z  hi hm
    refine sx_loop [0, 1] zi14 zi10 [] ⟨0, 0, 0, 0, 3, 2⟩ (.eff (.next (.ptr 2 0) false) [.asr 1] (.tup [.bool (.bl false)]) [.asr 2] ⟨0, 0, 0, 0, 3, 3⟩ <| .swap [.asr 0] [.asr 3] ⟨0, 0, 0, 0, 3, 4⟩ <| .ret (.tup []) [.blk 1 [.lit (.map none)] 86, .asr 3]) 100000 (by kernel_rfl) (fun _ h => by cases h) ?_
    refine d_eff (fun (_ : Unit) => { a := [mnA bk2] }) (fun _ => True) (fun l h hs => mn_next (m := l) (h := h) hs) fun _ _ => ?_
    refine d_swap (α := Unit) (fun (_ : Unit) => { a := [jz J 0] }) (fun (_ : Unit) => True) (fun l h hs => ⟨(), ⟨trivial, h0 _ _ _ hs⟩⟩) fun _ qs100 => ?_
    exact d_retZ fun h hs => .inl (jz_end (la := [own C (.cells [.lit (.map none)] 86)]) qi2 hs)
theorem w69s (Γ : Glob) [Mute Γ] (C : Nat)  : SeqP Tryz.prog Γ 129 [] [.ptr C 0] (0) (fun _k : Nat => [sV ([] : List UInt8)]) (fun _k : Nat => []) [own C (.cells [.lit (.map none)] 86)] [] := by
  intro Z B J0 J Q l h h0 hr hs
  refine sx_fnZ (Q := fun Z _ h => St Z ([own C (.cells [.lit (.map none)] 86)] ++ J (0) :: l) h ∨ St Z ([own C (.cells [.lit (.map none)] 86)] ++ Q :: l) h) Tryz.f129 Tryz.func129 (by kernel_rfl) [.yield 0, .ptr 1 0] [.blk 1 [.lit (.map none)] 86, .asr 0] ⟨0, 0, 0, 0, 2, 1⟩ (va { n := [B, C], a := [J0] }) (.eff (.range 86 (.lit (.map none))) [] (.ptr 2 0) [.asr 1] ⟨0, 0, 0, 0, 3, 2⟩ <| .stop [0, 1] zi14 zi10) 100000 (by kernel_rfl) hs rfl ?_
  refine d_eff (fun (bk2 : Nat) => { n := [bk2], a := [mnA bk2] }) (fun _ => True) (fun l h hs => mn_new (m := l) (h := h) rfl hs) fun bk2 _ => ?_
  exact d_stop (w69_l1 Γ C h0 hr bk2 _ _  qi2 (Nat.lt_succ_self _)) rfl rfl
abbrev w70Q (_Γ : Glob) (C : Nat) (l : List Asrt) (Zq : Hp) (vq : SV) (hq : Hp) : Prop := (True) ∧ vq = .lit (.slice none 0 0) ∧ St Zq (own C (.cells [.lit (.map none)] 85) :: l) hq
noncomputable abbrev w70C (Γ : Glob) (C : Nat) (Z0 : Hp) (l : List Asrt) : Cx := fnC Tryz.prog Γ Tryz.f253 2 [] (subA Z0 :: l) (PostZ Z0 (w70Q Γ C l))
theorem w70_r1 (Γ : Glob) [Mute Γ] (C : Nat)  (bk1 : Nat) {Z0 Z : Hp} {l : List Asrt}  (hi : True) : den (w70C Γ C Z0 l) (.stop [0, 1, 0, 1] zi11 zi7) ⟨0, 0, 0, 0, 2, 0⟩ (va { n := [C, bk1] }) Z := by
  haveI : Mute (w70C Γ C Z0 l).Γ := (inferInstance : Mute Γ)
  refine gx_rangeP (β := Unit) (p := [0, 1, 0, 1]) (la := [own C (.cells [.lit (.map none)] 85)]) (lb := []) rfl (by kernel_rfl) 6 (.fn 190 [] [.ptr 0 0]) (by kernel_rfl) rfl (w67s Γ C ) [own bk1 (.cells [.lit (.slice none 0 0)] 111)] (fun (_ : Unit) => [own bk1 (.cells [.lit (.slice none 0 0)] 111)]) (fun (k : Nat) (_ : Unit) => True) .ret rfl (fun _ => []) (fun _ => False) (fun _ _ s => s) (fun _ _ _ s => ⟨(), hi, s⟩) ?_ ?_ (fun _ _ h => h.elim)
  · exact fun k hk => absurd hk (Nat.not_lt_zero k)
  · intro Z _ hi dm2
    refine goOnP (C := w70C Γ C Z0 l) fnC_root (N := 100000) (fr' := zi11) (mem := [.obj 2 (.deferred true), .blk 0 [.lit (.map none)] 85, .blk 1 [.lit (.slice none 0 0)] 111]) (win := []) (c := ⟨0, 0, 0, 0, 3, 0⟩) (mks := [2]) (t := .ret (.lit (.slice none 0 0)) zi13) (va { n := [C, bk1, dm2] }) (by kernel_rfl) rfl rfl rfl (fun _ h => by cases h) ?_
    show den (fnC Tryz.prog Γ Tryz.f253 2 [dm2] (subA Z0 :: l) (PostZ Z0 (w70Q Γ C l))) _ _ _ _
    exact d_retZ fun h hs => ⟨qi0, qi1, hs⟩
theorem w70r (Γ : Glob) [Mute Γ] (C : Nat)  {Z0 h : Hp} {l : List Asrt} (hs : St Z0 (own C (.cells [.lit (.map none)] 85) :: l) h) : Runs Tryz.prog Γ (.call 253 [.lit (.slice none 0 0), .func (.func 190) [] [.ptr C 0]] h) fun oq => ∃ Z', Sub Z0 Z' ∧ w70Q Γ C l Z' oq.v oq.hp := by
  refine sx_fnZ (Q := w70Q Γ C l) Tryz.f253 Tryz.func253 (by kernel_rfl) [.lit (.slice none 0 0), .fn 190 [] [.ptr 0 0]] zi13 ⟨0, 0, 0, 0, 1, 0⟩ (va { n := [C] }) (.new <| .stop [0, 1, 0, 1] zi11 zi7) 100000 (by kernel_rfl) hs rfl ?_
  refine d_new fun bk1 => ?_
  exact d_stop (w70_r1 Γ C bk1  qi2) rfl rfl
abbrev w71Q (_Γ : Glob) (C : Nat) (l : List Asrt) (Zq : Hp) (vq : SV) (hq : Hp) : Prop := (True) ∧ vq = .lit (.slice none 0 0) ∧ St Zq (own C (.cells [.lit (.map none)] 85) :: l) hq
theorem w71r (Γ : Glob) [Mute Γ] (C : Nat)  {Z0 h : Hp} {l : List Asrt} (hs : St Z0 (own C (.cells [.lit (.map none)] 85) :: l) h) : Runs Tryz.prog Γ (.call 188 [.func (.func 190) [] [.ptr C 0]] h) fun oq => ∃ Z', Sub Z0 Z' ∧ w71Q Γ C l Z' oq.v oq.hp := by
  refine sx_fnZ (Q := w71Q Γ C l) Tryz.f188 Tryz.func188 (by kernel_rfl) [.fn 190 [] [.ptr 0 0]] zi13 ⟨0, 0, 0, 0, 1, 0⟩ (va { n := [C] }) (.call 253 [.lit (.slice none 0 0), .fn 190 [] [.ptr 0 0]] zi13 (.lit (.slice none 0 0)) zi13 ⟨0, 0, 0, 0, 1, 0⟩ <| .ret (.lit (.slice none 0 0)) zi13) 100000 (by kernel_rfl) hs rfl ?_
  refine d_call (α := Unit) (fun (_ : Unit) => {  }) (fun (_ : Unit) => True) (fun l h hs => (w70r (h := h) (l := l) Γ C  hs).mono fun _ ⟨Z1, z1, hq_, he_, hs_⟩ => ⟨Z1, z1, (), hq_, he_, hs_⟩) fun Z _ qd0 => ?_
  exact d_retZ fun h hs => ⟨qi0, qi1, hs⟩
abbrev w72Q (_Γ : Glob)  (l : List Asrt) (Zq : Hp) (vq : SV) (hq : Hp) : Prop := (True) ∧ vq = .tuple [] ∧ St Zq (l) hq
theorem w72r (Γ : Glob) [Mute Γ]   {Z0 h : Hp} {l : List Asrt} (hs : St Z0 (l) h) : Runs Tryz.prog Γ (.call 189 [.lit (.slice none 0 0), .lit (.func (.func 119) #[] #[])] h) fun oq => ∃ Z', Sub Z0 Z' ∧ w72Q Γ  l Z' oq.v oq.hp := by
  exact runs_now (N := 1000) (v := .tuple []) (by kernel_rfl) fun o e1 e2 => ⟨Z0, Sub.refl _, trivial, e1, by rw [e2]; exact hs⟩
abbrev w73Q (_Γ : Glob) (C : Nat) (l : List Asrt) (Zq : Hp) (vq : SV) (hq : Hp) : Prop := (True) ∧ vq = .lit (.slice none 0 0) ∧ St Zq (own C (.cells [.lit (.map none)] 85) :: l) hq
theorem w73r (Γ : Glob) [Mute Γ] (C : Nat)  {Z0 h : Hp} {l : List Asrt} (hs : St Z0 (own C (.cells [.lit (.map none)] 85) :: l) h) : Runs Tryz.prog Γ (.call 117 [.func (.func 190) [] [.ptr C 0], .lit (.func (.func 119) #[] #[])] h) fun oq => ∃ Z', Sub Z0 Z' ∧ w73Q Γ C l Z' oq.v oq.hp := by
  refine sx_fnZ (Q := w73Q Γ C l) Tryz.f117 Tryz.func117 (by kernel_rfl) [.fn 190 [] [.ptr 0 0], .lit (.func (.func 119) #[] #[])] zi13 ⟨0, 0, 0, 0, 1, 0⟩ (va { n := [C] }) (.call 188 [.fn 190 [] [.ptr 0 0]] zi13 (.lit (.slice none 0 0)) zi13 ⟨0, 0, 0, 0, 1, 0⟩ <| .call 189 [.lit (.slice none 0 0), .lit (.func (.func 119) #[] #[])] [] (.tup []) [] ⟨0, 0, 0, 0, 1, 0⟩ <| .ret (.lit (.slice none 0 0)) zi13) 100000 (by kernel_rfl) hs rfl ?_
  refine d_call (α := Unit) (fun (_ : Unit) => {  }) (fun (_ : Unit) => True) (fun l h hs => (w71r (h := h) (l := l) Γ C  hs).mono fun _ ⟨Z1, z1, hq_, he_, hs_⟩ => ⟨Z1, z1, (), hq_, he_, hs_⟩) fun Z _ qd0 => ?_
  refine d_call (α := Unit) (fun (_ : Unit) => {  }) (fun (_ : Unit) => True) (fun l h hs => (w72r (h := h) (l := l) Γ   hs).mono fun _ ⟨Z1, z1, hq_, he_, hs_⟩ => ⟨Z1, z1, (), hq_, he_, hs_⟩) fun Z _ qd1 => ?_
  exact d_retZ fun h hs => ⟨qi0, qi1, hs⟩
abbrev w74Q (_Γ : Glob) (P : Nat) (a r0 c0 : Int) (l : List Asrt) (Zq : Hp) (vq : SV) (hq : Hp) : Prop := (True) ∧ vq = .lit (.slice none 0 0) ∧ St Zq (own P (.cells [.lit (.map none), .lit (.map none), .lit (.map none), iV a, iV r0, iV c0, .lit (.slice none 0 0), .lit (.map none), .lit (.map none), .lit (.map none), .lit (.pointer none), bV true] 89) :: l) hq
theorem w74r (Γ : Glob) [Mute Γ] (P : Nat) (a r0 c0 : Int)  {Z0 h : Hp} {l : List Asrt} (hs : St Z0 (own P (.cells [.lit (.map none), .lit (.map none), .lit (.map none), iV a, iV r0, iV c0, .lit (.slice none 0 0), .lit (.map none), .lit (.map none), .lit (.map none), .lit (.pointer none), bV true] 89) :: l) h) : Runs Tryz.prog Γ (.call 60 [.ptr P 0] h) fun oq => ∃ Z', Sub Z0 Z' ∧ w74Q Γ P a r0 c0 l Z' oq.v oq.hp := by
  refine sx_fnZ (Q := w74Q Γ P a r0 c0 l) Tryz.f60 Tryz.func60 (by kernel_rfl) [.ptr 0 0] zi2 ⟨3, 0, 0, 0, 1, 0⟩ (va { i := [a, r0, c0], n := [P] }) (.call 118 [.lit (.map none)] [] (.fn 190 [] [.ptr 1 0]) zi16 ⟨3, 0, 0, 0, 2, 0⟩ <| .call 117 [.fn 190 [] [.ptr 1 0], .lit (.func (.func 119) #[] #[])] zi16 (.lit (.slice none 0 0)) zi16 ⟨3, 0, 0, 0, 2, 0⟩ <| .ret (.lit (.slice none 0 0)) zi2) 100000 (by kernel_rfl) hs rfl ?_
  refine d_call (α := Nat) (fun (C0 : Nat) => { n := [C0] }) (fun (C0 : Nat) => True) (fun l h hs => w66r (h := h) (l := l) Γ   hs) fun Z C0 qd0 => ?_
  refine d_call (α := Unit) (fun (_ : Unit) => {  }) (fun (_ : Unit) => True) (fun l h hs => (w73r (h := h) (l := l) Γ C0  hs).mono fun _ ⟨Z1, z1, hq_, he_, hs_⟩ => ⟨Z1, z1, (), hq_, he_, hs_⟩) fun Z _ qd1 => ?_
  exact d_retZ fun h hs => ⟨qi0, qi1, hs⟩
abbrev w75Q (_Γ : Glob) (C : Nat) (l : List Asrt) (Zq : Hp) (vq : SV) (hq : Hp) : Prop := (True) ∧ vq = .lit (.slice none 0 0) ∧ St Zq (own C (.cells [.lit (.map none)] 86) :: l) hq
noncomputable abbrev w75C (Γ : Glob) (C : Nat) (Z0 : Hp) (l : List Asrt) : Cx := fnC Tryz.prog Γ Tryz.f194 2 [] (subA Z0 :: l) (PostZ Z0 (w75Q Γ C l))
theorem w75_r1 (Γ : Glob) [Mute Γ] (C : Nat)  (bk1 : Nat) {Z0 Z : Hp} {l : List Asrt}  (hi : True) : den (w75C Γ C Z0 l) (.stop [0, 1, 0, 1] zi12 zi8) ⟨0, 0, 0, 0, 2, 0⟩ (va { n := [C, bk1] }) Z := by
  haveI : Mute (w75C Γ C Z0 l).Γ := (inferInstance : Mute Γ)
  refine gx_rangeP (β := Unit) (p := [0, 1, 0, 1]) (la := [own C (.cells [.lit (.map none)] 86)]) (lb := []) rfl (by kernel_rfl) 6 (.fn 129 [] [.ptr 0 0]) (by kernel_rfl) rfl (w69s Γ C ) [own bk1 (.cells [.lit (.slice none 0 0)] 148)] (fun (_ : Unit) => [own bk1 (.cells [.lit (.slice none 0 0)] 148)]) (fun (k : Nat) (_ : Unit) => True) .ret rfl (fun _ => []) (fun _ => False) (fun _ _ s => s) (fun _ _ _ s => ⟨(), hi, s⟩) ?_ ?_ (fun _ _ h => h.elim)
  · exact fun k hk => absurd hk (Nat.not_lt_zero k)
  · intro Z _ hi dm2
    refine goOnP (C := w75C Γ C Z0 l) fnC_root (N := 100000) (fr' := zi12) (mem := [.obj 2 (.deferred true), .blk 0 [.lit (.map none)] 86, .blk 1 [.lit (.slice none 0 0)] 148]) (win := []) (c := ⟨0, 0, 0, 0, 3, 0⟩) (mks := [2]) (t := .ret (.lit (.slice none 0 0)) zi15) (va { n := [C, bk1, dm2] }) (by kernel_rfl) rfl rfl rfl (fun _ h => by cases h) ?_
    show den (fnC Tryz.prog Γ Tryz.f194 2 [dm2] (subA Z0 :: l) (PostZ Z0 (w75Q Γ C l))) _ _ _ _
    exact d_retZ fun h hs => ⟨qi0, qi1, hs⟩
theorem w75r (Γ : Glob) [Mute Γ] (C : Nat)  {Z0 h : Hp} {l : List Asrt} (hs : St Z0 (own C (.cells [.lit (.map none)] 86) :: l) h) : Runs Tryz.prog Γ (.call 194 [.lit (.slice none 0 0), .func (.func 129) [] [.ptr C 0]] h) fun oq => ∃ Z', Sub Z0 Z' ∧ w75Q Γ C l Z' oq.v oq.hp := by
  refine sx_fnZ (Q := w75Q Γ C l) Tryz.f194 Tryz.func194 (by kernel_rfl) [.lit (.slice none 0 0), .fn 129 [] [.ptr 0 0]] zi15 ⟨0, 0, 0, 0, 1, 0⟩ (va { n := [C] }) (.new <| .stop [0, 1, 0, 1] zi12 zi8) 100000 (by kernel_rfl) hs rfl ?_
  refine d_new fun bk1 => ?_
  exact d_stop (w75_r1 Γ C bk1  qi2) rfl rfl
abbrev w76Q (_Γ : Glob) (C : Nat) (l : List Asrt) (Zq : Hp) (vq : SV) (hq : Hp) : Prop := (True) ∧ vq = .lit (.slice none 0 0) ∧ St Zq (own C (.cells [.lit (.map none)] 86) :: l) hq
theorem w76r (Γ : Glob) [Mute Γ] (C : Nat)  {Z0 h : Hp} {l : List Asrt} (hs : St Z0 (own C (.cells [.lit (.map none)] 86) :: l) h) : Runs Tryz.prog Γ (.call 127 [.func (.func 129) [] [.ptr C 0]] h) fun oq => ∃ Z', Sub Z0 Z' ∧ w76Q Γ C l Z' oq.v oq.hp := by
  refine sx_fnZ (Q := w76Q Γ C l) Tryz.f127 Tryz.func127 (by kernel_rfl) [.fn 129 [] [.ptr 0 0]] zi15 ⟨0, 0, 0, 0, 1, 0⟩ (va { n := [C] }) (.call 194 [.lit (.slice none 0 0), .fn 129 [] [.ptr 0 0]] zi15 (.lit (.slice none 0 0)) zi15 ⟨0, 0, 0, 0, 1, 0⟩ <| .ret (.lit (.slice none 0 0)) zi15) 100000 (by kernel_rfl) hs rfl ?_
  refine d_call (α := Unit) (fun (_ : Unit) => {  }) (fun (_ : Unit) => True) (fun l h hs => (w75r (h := h) (l := l) Γ C  hs).mono fun _ ⟨Z1, z1, hq_, he_, hs_⟩ => ⟨Z1, z1, (), hq_, he_, hs_⟩) fun Z _ qd0 => ?_
  exact d_retZ fun h hs => ⟨qi0, qi1, hs⟩
abbrev w77Q (_Γ : Glob)  (l : List Asrt) (Zq : Hp) (vq : SV) (hq : Hp) : Prop := (True) ∧ vq = .tuple [] ∧ St Zq (l) hq
theorem w77r (Γ : Glob) [Mute Γ]   {Z0 h : Hp} {l : List Asrt} (hs : St Z0 (l) h) : Runs Tryz.prog Γ (.call 128 [.lit (.slice none 0 0)] h) fun oq => ∃ Z', Sub Z0 Z' ∧ w77Q Γ  l Z' oq.v oq.hp := by
  exact runs_now (N := 1000) (v := .tuple []) (by kernel_rfl) fun o e1 e2 => ⟨Z0, Sub.refl _, trivial, e1, by rw [e2]; exact hs⟩
abbrev w78Q (_Γ : Glob) (C : Nat) (l : List Asrt) (Zq : Hp) (vq : SV) (hq : Hp) : Prop := (True) ∧ vq = .lit (.slice none 0 0) ∧ St Zq (own C (.cells [.lit (.map none)] 86) :: l) hq
theorem w78r (Γ : Glob) [Mute Γ] (C : Nat)  {Z0 h : Hp} {l : List Asrt} (hs : St Z0 (own C (.cells [.lit (.map none)] 86) :: l) h) : Runs Tryz.prog Γ (.call 63 [.func (.func 129) [] [.ptr C 0]] h) fun oq => ∃ Z', Sub Z0 Z' ∧ w78Q Γ C l Z' oq.v oq.hp := by
  refine sx_fnZ (Q := w78Q Γ C l) Tryz.f63 Tryz.func63 (by kernel_rfl) [.fn 129 [] [.ptr 0 0]] zi15 ⟨0, 0, 0, 0, 1, 0⟩ (va { n := [C] }) (.call 127 [.fn 129 [] [.ptr 0 0]] zi15 (.lit (.slice none 0 0)) zi15 ⟨0, 0, 0, 0, 1, 0⟩ <| .call 128 [.lit (.slice none 0 0)] [] (.tup []) [] ⟨0, 0, 0, 0, 1, 0⟩ <| .ret (.lit (.slice none 0 0)) zi15) 100000 (by kernel_rfl) hs rfl ?_
  refine d_call (α := Unit) (fun (_ : Unit) => {  }) (fun (_ : Unit) => True) (fun l h hs => (w76r (h := h) (l := l) Γ C  hs).mono fun _ ⟨Z1, z1, hq_, he_, hs_⟩ => ⟨Z1, z1, (), hq_, he_, hs_⟩) fun Z _ qd0 => ?_
  refine d_call (α := Unit) (fun (_ : Unit) => {  }) (fun (_ : Unit) => True) (fun l h hs => (w77r (h := h) (l := l) Γ   hs).mono fun _ ⟨Z1, z1, hq_, he_, hs_⟩ => ⟨Z1, z1, (), hq_, he_, hs_⟩) fun Z _ qd1 => ?_
  exact d_retZ fun h hs => ⟨qi0, qi1, hs⟩
abbrev w79Q (_Γ : Glob) (P : Nat) (a r0 c0 : Int) (l : List Asrt) (Zq : Hp) (vq : SV) (hq : Hp) : Prop := ∃ S : Nat, ∃ R : Nat, ∃ C : Nat, ∃ K : Nat, ∃ N : Nat, (True) ∧ vq = .ptr S 0 ∧ St Zq (own P (.cells [.lit (.map none), .lit (.map none), .lit (.map none), iV a, iV r0, iV c0, .lit (.slice none 0 0), .lit (.map none), .lit (.map none), .lit (.map none), .ptr S 0, bV true] 89) :: own S (.cells [.ptr R 0, .ptr C 0, .ptr K 0, .ptr N 0] 98) :: axA R (firstAx (cutN r0)) :: axA C (firstAx (cutN c0)) :: own K (.cells [.lit (.map none)] 231) :: own N (.cells [.lit (.map none)] 241) :: l) hq
noncomputable abbrev w79C (Γ : Glob) (P : Nat) (a r0 c0 : Int) (Z0 : Hp) (l : List Asrt) : Cx := fnC Tryz.prog Γ Tryz.f23 1 [] (subA Z0 :: l) (PostZ Z0 (w79Q Γ P a r0 c0 l))
theorem w79_l1 (Γ : Glob) [Mute Γ] (P : Nat) (a r0 c0 : Int)  (S0 R0 : Nat) (C0 K0 : Nat) (N0 R21 : Nat) (R22 C100 : Nat) {Z0 : Hp} {l : List Asrt} : ∀ (m : Nat) (Z : Hp)  (_hi : True) (_hm : 0 < m), den (w79C Γ P a r0 c0 Z0 l) (.stop [0, 1, 0, 1, 1, 1, 1, 1, 1, 1] zi5 zi0) ⟨12, 0, 0, 0, 9, 6⟩ (va { i := [a, r0, c0, a, r0, c0, a, r0, c0, a, r0, c0], n := [P, S0, R0, C0, K0, N0, R21, R22, C100], a := [axA R0 (firstAx (cutN r0)), axA C0 (firstAx (cutN c0)), axA R0 (firstAx (cutN r0)), axA R21 (firstAx (cutN r0)), axA C0 (firstAx (cutN c0)), axA R22 (firstAx (cutN c0))] }) Z := by
  intro m
  induction m with
  | zero => intros; omega
  | succ m ih =>
    intro Z  hi hm
    refine sx_loop [0, 1, 0, 1, 1, 1, 1, 1, 1, 1] zi5 zi0 [] ⟨12, 0, 0, 0, 9, 6⟩ (.ret (.ptr 1 0) [.blk 0 [.lit (.map none), .lit (.map none), .lit (.map none), I (.v 9), I (.v 10), I (.v 11), .lit (.slice none 0 0), .lit (.map none), .lit (.map none), .lit (.map none), .ptr 1 0, .bool (.bl true)] 89, .blk 1 [.ptr 6 0, .ptr 7 0, .ptr 4 0, .ptr 5 0] 98, .asr 3, .asr 5, .blk 4 [.lit (.map none)] 231, .blk 5 [.lit (.map none)] 241]) 100000 (by kernel_rfl) (fun _ h => by cases h) ?_
    exact d_retZ fun h hs => ⟨S0, R21, R22, K0, N0, qi0, by first | rfl | (show (.ptr S0 0 : SV) = _; simp_all), hs⟩
theorem w79_l2 (Γ : Glob) [Mute Γ] (P : Nat) (a r0 c0 : Int)  (S0 R0 : Nat) (C0 K0 : Nat) (N0 R21 R22 : Nat) {Z0 : Hp} {l : List Asrt} : ∀ (m : Nat) (Z : Hp)  (_hi : True) (_hm : 0 < m), den (w79C Γ P a r0 c0 Z0 l) (.stop [0, 1, 0, 1, 1, 1, 1, 1, 1] zi6 zi1) ⟨12, 0, 0, 0, 8, 6⟩ (va { i := [a, r0, c0, a, r0, c0, a, r0, c0, a, r0, c0], n := [P, S0, R0, C0, K0, N0, R21, R22], a := [axA R0 (firstAx (cutN r0)), axA C0 (firstAx (cutN c0)), axA R0 (firstAx (cutN r0)), axA R21 (firstAx (cutN r0)), axA C0 (firstAx (cutN c0)), axA R22 (firstAx (cutN c0))] }) Z := by
  intro m
  induction m with
  | zero => intros; omega
  | succ m ih =>
    intro Z  hi hm
    refine sx_loop [0, 1, 0, 1, 1, 1, 1, 1, 1] zi6 zi1 [] ⟨12, 0, 0, 0, 8, 6⟩ (.call 64 [.lit (.map none)] [] (.fn 129 [] [.ptr 8 0]) zi17 ⟨12, 0, 0, 0, 9, 6⟩ <| .call 63 [.fn 129 [] [.ptr 8 0]] zi17 (.lit (.slice none 0 0)) zi17 ⟨12, 0, 0, 0, 9, 6⟩ <| .stop [0, 1, 0, 1, 1, 1, 1, 1, 1, 1] zi5 zi0) 100000 (by kernel_rfl) (fun _ h => by cases h) ?_
    refine d_call (α := Nat) (fun (C100 : Nat) => { n := [C100] }) (fun (C100 : Nat) => True) (fun l h hs => w68r (h := h) (l := l) Γ   hs) fun Z C100 qd100 => ?_
    refine d_call (α := Unit) (fun (_ : Unit) => {  }) (fun (_ : Unit) => True) (fun l h hs => (w78r (h := h) (l := l) Γ C100  hs).mono fun _ ⟨Z1, z1, hq_, he_, hs_⟩ => ⟨Z1, z1, (), hq_, he_, hs_⟩) fun Z _ qd101 => ?_
    exact d_stop (w79_l1 Γ P a r0 c0 S0 R0 C0 K0 N0 R21 R22 C100 _ _  qi3 (Nat.lt_succ_self _)) rfl rfl
theorem w79r (Γ : Glob) [Mute Γ] (P : Nat) (a r0 c0 : Int)  {Z0 h : Hp} {l : List Asrt} (hs : St Z0 (own P (.cells [.lit (.map none), .lit (.map none), .lit (.map none), iV a, iV r0, iV c0, .lit (.slice none 0 0), .lit (.map none), .lit (.map none), .lit (.map none), .lit (.pointer none), bV false] 89) :: l) h) : Runs Tryz.prog Γ (.call 23 [.ptr P 0] h) fun oq => ∃ Z', Sub Z0 Z' ∧ w79Q Γ P a r0 c0 l Z' oq.v oq.hp := by
  refine sx_fnZ (Q := w79Q Γ P a r0 c0 l) Tryz.f23 Tryz.func23 (by kernel_rfl) [.ptr 0 0] [.blk 0 zi3 89] ⟨3, 0, 0, 0, 1, 0⟩ (va { i := [a, r0, c0], n := [P] }) (.call 58 [I (.v 1), I (.v 2)] [] (.ptr 1 0) [.blk 1 [.ptr 2 0, .ptr 3 0, .ptr 4 0, .ptr 5 0] 98, .asr 0, .asr 1, .blk 4 [.lit (.map none)] 231, .blk 5 [.lit (.map none)] 241] ⟨3, 0, 0, 0, 6, 2⟩ <| .call 59 [.ptr 0 0, .ptr 2 0, I (.z 2), I (.z 4)] [.blk 0 zi3 89, .asr 0] (.ptr 6 0) [.blk 0 zi4 89, .asr 2, .asr 3] ⟨6, 0, 0, 0, 7, 4⟩ <| .call 59 [.ptr 0 0, .ptr 3 0, I (.z 3), I (.z 5)] [.blk 0 zi4 89, .asr 1] (.ptr 7 0) [.blk 0 [.lit (.map none), .lit (.map none), .lit (.map none), I (.v 6), I (.v 7), I (.v 8), .lit (.slice none 0 0), .lit (.map none), .lit (.map none), .lit (.map none), .lit (.pointer none), .bool (.bl false)] 89, .asr 4, .asr 5] ⟨9, 0, 0, 0, 8, 6⟩ <| .call 60 [.ptr 0 0] [.blk 0 [.lit (.map none), .lit (.map none), .lit (.map none), I (.v 6), I (.v 7), I (.v 8), .lit (.slice none 0 0), .lit (.map none), .lit (.map none), .lit (.map none), .lit (.pointer none), .bool (.bl true)] 89] (.lit (.slice none 0 0)) [.blk 0 [.lit (.map none), .lit (.map none), .lit (.map none), I (.v 9), I (.v 10), I (.v 11), .lit (.slice none 0 0), .lit (.map none), .lit (.map none), .lit (.map none), .lit (.pointer none), .bool (.bl true)] 89] ⟨12, 0, 0, 0, 8, 6⟩ <| .stop [0, 1, 0, 1, 1, 1, 1, 1, 1] zi6 zi1) 100000 (by kernel_rfl) hs rfl ?_
  refine d_call (α := Nat × Nat × Nat × Nat × Nat) (fun (⟨S0, R0, C0, K0, N0⟩ : Nat × Nat × Nat × Nat × Nat) => { n := [S0, R0, C0, K0, N0], a := [axA R0 (firstAx (cutN r0)), axA C0 (firstAx (cutN c0))] }) (fun (⟨S0, R0, C0, K0, N0⟩ : Nat × Nat × Nat × Nat × Nat) => True) (fun l h hs => (w14r (h := h) (l := l) Γ r0 c0  hs).mono fun _ ⟨Z1, z1, S0, R0, C0, K0, N0, hq_, he_, hs_⟩ => ⟨Z1, z1, ⟨S0, R0, C0, K0, N0⟩, hq_, he_, hs_⟩) fun Z ⟨S0, R0, C0, K0, N0⟩ qd0 => ?_
  refine d_call (α := Nat) (fun (R21 : Nat) => { i := [a, r0, c0], n := [R21], a := [axA R0 (firstAx (cutN r0)), axA R21 (firstAx (cutN r0))] }) (fun (R21 : Nat) => True) (fun l h hs => w65r (h := h) (l := l) Γ P R0 2 4 a r0 c0 (cutN r0) qi3 qi3 hs) fun Z R21 qd1 => ?_
  refine d_call (α := Nat) (fun (R22 : Nat) => { i := [a, r0, c0], n := [R22], a := [axA C0 (firstAx (cutN c0)), axA R22 (firstAx (cutN c0))] }) (fun (R22 : Nat) => True) (fun l h hs => w65r (h := h) (l := l) Γ P C0 3 5 a r0 c0 (cutN c0) qi3 qi3 hs) fun Z R22 qd2 => ?_
  refine d_call (α := Unit) (fun (_ : Unit) => { i := [a, r0, c0] }) (fun (_ : Unit) => True) (fun l h hs => (w74r (h := h) (l := l) Γ P a r0 c0  hs).mono fun _ ⟨Z1, z1, hq_, he_, hs_⟩ => ⟨Z1, z1, (), hq_, he_, hs_⟩) fun Z _ qd3 => ?_
  exact d_stop (w79_l2 Γ P a r0 c0 S0 R0 C0 K0 N0 R21 R22 _ _  qi3 (Nat.lt_succ_self _)) rfl rfl
open Go Go.Proofs.YtdhmljjpiainnaaGreatDoor.Ev
set_option maxRecDepth 20000
set_option maxHeartbeats 4000000
abbrev zj0 : List MI := [.blk 0 [.lit (.map none), .lit (.map none), .lit (.map none), I (.v 0), I (.v 1), I (.v 2), .lit (.slice none 0 0), .lit (.map none), .lit (.map none), .lit (.map none), .lit (.pointer none), .bool (.bl false)] 89]
abbrev zj1 : List MI := [.blk 0 [.lit (.map none), .lit (.map none), .lit (.map none), I (.v 0), I (.v 1), I (.v 2), .lit (.slice none 0 0), .lit (.map none), .lit (.map none), .lit (.map none), .ptr 1 0, .bool (.bl true)] 89]
abbrev zj2 : List XV := [.lit (.map none), .lit (.map none), .lit (.map none), I (.v 3), I (.v 4), I (.v 5), .lit (.slice none 0 0), .lit (.map none), .lit (.map none), .lit (.map none), .ptr 1 0, .bool (.bl true)]
abbrev zj3 : List (Nat × XV) := [(1, .lit (.pointer none)), (5, .lit (.slice none 0 0)), (13, .lit (.slice none 0 0)), (14, I (.z 0)), (15, I (.z 0))]
abbrev zj4 : List (Nat × XV) := [(0, .yield 0), (3, .map 4), (15, .lit (.slice none 0 0)), (16, I (.z 0)), (17, I (.z 0))]
abbrev zj5 : List MI := [.blk 5 [.map 4] 77, .asr 4, .asr 2, .blk 1 [.ptr 2 0] 59, .blk 2 [.map 3] 79, .asr 1]
abbrev zj6 : List MI := [.blk 0 [.map 1] 77, .asr 0, .blk 2 [.lit (.slice none 0 0)] 121]
abbrev zj7 : List MI := [.asr 2, .asr 3, .blk 1 [.map 2] 77, .asr 1]
abbrev zj8 : List (Nat × XV) := [(6, .fn 92 [] [.ptr 0 0]), (2, .ptr 2 0)]
abbrev zj9 : List XV := [.ptr 2 0, .ptr 3 0, .ptr 4 0, .ptr 5 0]
abbrev zj10 : List (Nat × XV) := [(0, .yield 0), (5, .ptr 3 0)]
abbrev zj11 : List MI := [.blk 0 [.map 1] 77, .asr 0]
abbrev zj12 : List MI := [.blk 0 [.map 1] 77, .asr 1]
theorem qj0 {P : Prop} (h : P := by first | trivial | omega | (and_intros <;> intros <;> and_intros <;> first | trivial | omega | assumption | (simp at *; omega) | (simp_all; done) | (simp_all; omega))) : P := h
theorem qj1 {P : Prop} (h : P := by first | omega | (and_intros <;> intros <;> and_intros <;> first | omega | assumption | (simp at *; omega) | (simp_all; done) | (simp_all; omega))) : P := h
theorem qj2 {P : Prop} (h : P := by first | omega | (and_intros <;> intros <;> and_intros <;> first | omega | assumption | exact ids_len _ | exact liv_len _ | exact cutN_rng _ | exact (cutN_rng _).1 | exact (cutN_rng _).2 | (rw [firstAx_len]; have := cutN_rng r0; have := cutN_rng c0; omega) | exact firstAx_nodup _ | (rw [firstAx_ids, first_len, firstAx_len]; done) | (simp only [livOf, List.length_map]; done) | (simp at *; omega) | (simp_all; done) | (simp_all; omega))) : P := h
theorem qj3 {P : Prop} (h : P := by first | rfl | (show (.lit (.slice none 0 0) : SV) = _; simp_all)) : P := h
abbrev w80Q (_Γ : Glob)  (l : List Asrt) (Zq : Hp) (vq : SV) (hq : Hp) : Prop := ∃ P : Nat, ∃ M : Nat, (True) ∧ vq = .ptr P 0 ∧ St Zq (own P (.cells [.map M] 79) :: mpA iK iiE M [] :: l) hq
theorem w80r (Γ : Glob) [Mute Γ]   {Z0 h : Hp} {l : List Asrt} (hs : St Z0 (l) h) : Runs Tryz.prog Γ (.call 39 [] h) fun oq => ∃ Z', Sub Z0 Z' ∧ w80Q Γ  l Z' oq.v oq.hp := by
  refine sx_fnZ (Γ := Γ) (Q := w80Q Γ  l) Tryz.f39 Tryz.func39 (by kernel_rfl) [] [] {} (va {  }) (.new <| .new <| .swap [.obj 0 (.map [] 0)] [.asr 0] ⟨0, 0, 0, 0, 2, 1⟩ <| .ret (.ptr 1 0) [.blk 1 [.map 0] 79, .asr 0]) 100000 (by kernel_rfl) hs rfl ?_
  refine d_new fun bk0 => ?_
  refine d_new fun bk1 => ?_
  refine d_swap (α := Unit) (fun (_ : Unit) => { a := [mpA iK iiE bk0 []] }) (fun (_ : Unit) => True) (fun l h hs => ⟨(), ⟨trivial, mp_new (hs) (m := l) (h := h)⟩⟩) fun _ qs0 => ?_
  exact d_retZ fun h hs => ⟨bk1, bk0, qj0, by first | rfl | (show (.ptr bk1 0 : SV) = _; simp_all), hs⟩
abbrev w81Q (_Γ : Glob)  (l : List Asrt) (Zq : Hp) (vq : SV) (hq : Hp) : Prop := ∃ P : Nat, ∃ M : Nat, (True) ∧ vq = .ptr P 0 ∧ St Zq (own P (.cells [.map M] 79) :: mpA iK iiE M [] :: l) hq
theorem w81r (Γ : Glob) [Mute Γ]   {Z0 h : Hp} {l : List Asrt} (hs : St Z0 (l) h) : Runs Tryz.prog Γ (.call 14 [.lit (.pointer none)] h) fun oq => ∃ Z', Sub Z0 Z' ∧ w81Q Γ  l Z' oq.v oq.hp := by
  refine sx_fnZ (Γ := Γ) (Q := w81Q Γ  l) Tryz.f14 Tryz.func14 (by kernel_rfl) [.lit (.pointer none)] [] {} (va {  }) (.call 39 [] [] (.ptr 0 0) [.blk 0 [.map 1] 79, .asr 0] ⟨0, 0, 0, 0, 2, 1⟩ <| .ret (.ptr 0 0) [.blk 0 [.map 1] 79, .asr 0]) 100000 (by kernel_rfl) hs rfl ?_
  refine d_call (α := Nat × Nat) (fun (⟨P0, M0⟩ : Nat × Nat) => { n := [P0, M0], a := [mpA iK iiE M0 []] }) (fun (⟨P0, M0⟩ : Nat × Nat) => True) (fun l h hs => (w80r (h := h) (l := l) Γ   hs).mono fun _ ⟨Z1, z1, P0, M0, hq_, he_, hs_⟩ => ⟨Z1, z1, ⟨P0, M0⟩, hq_, he_, hs_⟩) fun Z ⟨P0, M0⟩ qd0 => ?_
  exact d_retZ fun h hs => ⟨P0, M0, qj0, by first | rfl | (show (.ptr P0 0 : SV) = _; simp_all), hs⟩
abbrev w82Q (_Γ : Glob) (M : Nat) (C : List (Int × Int)) (l : List Asrt) (Zq : Hp) (vq : SV) (hq : Hp) : Prop := ∃ M1 : Nat, (True) ∧ vq = .map M1 ∧ St Zq (mpA iK iiE M C :: mpA iK iiE M1 C :: l) hq
theorem w82r (Γ : Glob) [Mute Γ] (M : Nat) (C : List (Int × Int))  {Z0 h : Hp} {l : List Asrt} (hs : St Z0 (mpA iK iiE M C :: l) h) : Runs Tryz.prog Γ (.call 42 [.map M] h) fun oq => ∃ Z', Sub Z0 Z' ∧ w82Q Γ M C l Z' oq.v oq.hp := by
  refine sx_fnZ (Q := w82Q Γ M C l) Tryz.f42 Tryz.func42 (by kernel_rfl) [.map 0] [.asr 0] ⟨0, 0, 0, 0, 1, 1⟩ (va { n := [M], a := [mpA iK iiE M C] }) (.eff (.clone 89 (.iface 77 (.map 0))) [.asr 0] (.iface 77 (.map 1)) [.asr 1, .asr 2] ⟨0, 0, 0, 0, 2, 3⟩ <| .row (.asrt 77 false (.iface 77 (.map 1))) [] (.map 1) ⟨0, 0, 0, 0, 2, 3⟩ <| .ret (.map 1) [.asr 2, .asr 1]) 100000 (by kernel_rfl) hs rfl ?_
  refine d_eff (fun (cm0 : Nat) => { n := [cm0], a := [mpA iK iiE cm0 C, mpA iK iiE M C] }) (fun _ => True) (fun l h hs => mp_clone (m := l) (h := h) (kc := iK) (ve := iiE) (L := C) (by kernel_rfl) hs) fun cm0 _ => ?_
  refine d_row {  } True (fun l h hs => asrt_same (by kernel_rfl)) fun _ => ?_
  exact d_retZ fun h hs => ⟨cm0, qj0, by first | rfl | (show (.map cm0 : SV) = _; simp_all), hs⟩
abbrev w83Q (_Γ : Glob) (M : Nat) (l : List Asrt) (Zq : Hp) (vq : SV) (hq : Hp) : Prop := ∃ C : Nat, (True) ∧ vq = .func (.func 92) [] [.ptr C 0] ∧ St Zq (own C (.cells [.map M] 77) :: l) hq
theorem w83r (Γ : Glob) [Mute Γ] (M : Nat)  {Z0 h : Hp} {l : List Asrt} (hs : St Z0 (l) h) : Runs Tryz.prog Γ (.call 44 [.map M] h) fun oq => ∃ Z', Sub Z0 Z' ∧ w83Q Γ M l Z' oq.v oq.hp := by
  refine sx_fnZ (Γ := Γ) (Q := w83Q Γ M l) Tryz.f44 Tryz.func44 (by kernel_rfl) [.map 0] [] ⟨0, 0, 0, 0, 1, 0⟩ (va { n := [M] }) (.new <| .ret (.fn 92 [] [.ptr 1 0]) [.blk 1 [.map 0] 77]) 100000 (by kernel_rfl) hs rfl ?_
  refine d_new fun bk1 => ?_
  exact d_retZ fun h hs => ⟨bk1, qj0, by first | rfl | (show (.func (.func 92) [] [.ptr bk1 0] : SV) = _; simp_all), hs⟩
theorem w84_l1 (Γ : Glob) [Mute Γ] (C M : Nat)  {Z0 : Hp} {B : Nat} {J0 : Asrt} {J : Nat → Asrt} {Q : Asrt} (h0 : ∀ Z l h, St Z ([] ++ J0 :: l) h → St Z (J 0 :: l) h) (_hr : Rounds Tryz.prog Γ B (0) (fun _k : Nat => [iV 0]) (fun _k : Nat => []) J Q) (bk3 : Nat) {l : List Asrt} : ∀ (m : Nat) (Z : Hp)  (_hi : True) (_hm : 0 < m), den (fnC Tryz.prog Γ Tryz.f92 2 [] (subA Z0 :: l) (PostZ Z0 (fun Z _ h => St Z ([own C (.cells [.map M] 77), mpA iK iiE M []] ++ J (0) :: l) h ∨ St Z ([own C (.cells [.map M] 77), mpA iK iiE M []] ++ Q :: l) h))) (.stop [0, 1] zj10 zj7) ⟨0, 0, 0, 0, 4, 4⟩ (va { n := [B, C, M, bk3], a := [mpA iK iiE M [], J0, miA bk3 M, mpA iK iiE M []] }) Z := by
  intro m
  induction m with
  | zero => intros; omega
  | succ m ih =>
    intro Z  hi hm
    refine sx_loop [0, 1] zj10 zj7 [] ⟨0, 0, 0, 0, 4, 4⟩ (.eff (.next (.ptr 3 0) false) [.asr 2, .asr 3] (.tup [.bool (.bl false)]) [.asr 4, .asr 5] ⟨0, 0, 0, 0, 4, 6⟩ <| .swap [.asr 1] [.asr 6] ⟨0, 0, 0, 0, 4, 7⟩ <| .ret (.tup []) [.blk 1 [.map 2] 77, .asr 5, .asr 6]) 100000 (by kernel_rfl) (fun _ h => by cases h) ?_
    refine d_eff (fun (_ : Unit) => { a := [miA bk3 M, mpA iK iiE M []] }) (fun _ => True) (fun l h hs => mi_next (m := l) (h := h) (kc := iK) (ve := iiE) hs) fun _ _ => ?_
    refine d_swap (α := Unit) (fun (_ : Unit) => { a := [jz J 0] }) (fun (_ : Unit) => True) (fun l h hs => ⟨(), ⟨trivial, h0 _ _ _ hs⟩⟩) fun _ qs100 => ?_
    exact d_retZ fun h hs => .inl (jz_end (la := [own C (.cells [.map M] 77), mpA iK iiE M []]) qj1 hs)
theorem w84s (Γ : Glob) [Mute Γ] (C M : Nat)  : SeqP Tryz.prog Γ 92 [] [.ptr C 0] (0) (fun _k : Nat => [iV 0]) (fun _k : Nat => []) [own C (.cells [.map M] 77), mpA iK iiE M []] [] := by
  intro Z B J0 J Q l h h0 hr hs
  refine sx_fnZ (Q := fun Z _ h => St Z ([own C (.cells [.map M] 77), mpA iK iiE M []] ++ J (0) :: l) h ∨ St Z ([own C (.cells [.map M] 77), mpA iK iiE M []] ++ Q :: l) h) Tryz.f92 Tryz.func92 (by kernel_rfl) [.yield 0, .ptr 1 0] [.blk 1 [.map 2] 77, .asr 0, .asr 1] ⟨0, 0, 0, 0, 3, 2⟩ (va { n := [B, C, M], a := [mpA iK iiE M [], J0] }) (.eff (.range 77 (.map 2)) [.asr 0] (.ptr 3 0) [.asr 2, .asr 3] ⟨0, 0, 0, 0, 4, 4⟩ <| .stop [0, 1] zj10 zj7) 100000 (by kernel_rfl) hs rfl ?_
  refine d_eff (fun (bk3 : Nat) => { n := [bk3], a := [miA bk3 M, mpA iK iiE M []] }) (fun _ => True) (fun l h hs => mi_new (m := l) (h := h) (kc := iK) (ve := iiE) rfl hs) fun bk3 _ => ?_
  exact d_stop (w84_l1 Γ C M h0 hr bk3 _ _  qj1 (Nat.lt_succ_self _)) rfl rfl
abbrev w85Q (_Γ : Glob) (C M : Nat) (l : List Asrt) (Zq : Hp) (vq : SV) (hq : Hp) : Prop := (True) ∧ vq = .lit (.slice none 0 0) ∧ St Zq (own C (.cells [.map M] 77) :: mpA iK iiE M [] :: l) hq
noncomputable abbrev w85C (Γ : Glob) (C M : Nat) (Z0 : Hp) (l : List Asrt) : Cx := fnC Tryz.prog Γ Tryz.f171 2 [] (subA Z0 :: l) (PostZ Z0 (w85Q Γ C M l))
theorem w85_r1 (Γ : Glob) [Mute Γ] (C M : Nat)  (bk2 : Nat) {Z0 Z : Hp} {l : List Asrt}  (hi : True) : den (w85C Γ C M Z0 l) (.stop [0, 1, 0, 1] zj8 zj6) ⟨0, 0, 0, 0, 3, 1⟩ (va { n := [C, M, bk2], a := [mpA iK iiE M []] }) Z := by
  haveI : Mute (w85C Γ C M Z0 l).Γ := (inferInstance : Mute Γ)
  refine gx_rangeP (β := Unit) (p := [0, 1, 0, 1]) (la := [own C (.cells [.map M] 77), mpA iK iiE M []]) (lb := []) rfl (by kernel_rfl) 6 (.fn 92 [] [.ptr 0 0]) (by kernel_rfl) rfl (w84s Γ C M ) [own bk2 (.cells [.lit (.slice none 0 0)] 121)] (fun (_ : Unit) => [own bk2 (.cells [.lit (.slice none 0 0)] 121)]) (fun (k : Nat) (_ : Unit) => True) .ret rfl (fun _ => []) (fun _ => False) (fun _ _ s => s) (fun _ _ _ s => ⟨(), hi, s⟩) ?_ ?_ (fun _ _ h => h.elim)
  · exact fun k hk => absurd hk (Nat.not_lt_zero k)
  · intro Z _ hi dm3
    refine goOnP (C := w85C Γ C M Z0 l) fnC_root (N := 100000) (fr' := zj8) (mem := [.obj 3 (.deferred true), .blk 0 [.map 1] 77, .asr 0, .blk 2 [.lit (.slice none 0 0)] 121]) (win := []) (c := ⟨0, 0, 0, 0, 4, 1⟩) (mks := [3]) (t := .ret (.lit (.slice none 0 0)) zj11) (va { n := [C, M, bk2, dm3], a := [mpA iK iiE M []] }) (by kernel_rfl) rfl rfl rfl (fun _ h => by cases h) ?_
    show den (fnC Tryz.prog Γ Tryz.f171 2 [dm3] (subA Z0 :: l) (PostZ Z0 (w85Q Γ C M l))) _ _ _ _
    exact d_retZ fun h hs => ⟨qj0, qj3, hs⟩
theorem w85r (Γ : Glob) [Mute Γ] (C M : Nat)  {Z0 h : Hp} {l : List Asrt} (hs : St Z0 (own C (.cells [.map M] 77) :: mpA iK iiE M [] :: l) h) : Runs Tryz.prog Γ (.call 171 [.lit (.slice none 0 0), .func (.func 92) [] [.ptr C 0]] h) fun oq => ∃ Z', Sub Z0 Z' ∧ w85Q Γ C M l Z' oq.v oq.hp := by
  refine sx_fnZ (Q := w85Q Γ C M l) Tryz.f171 Tryz.func171 (by kernel_rfl) [.lit (.slice none 0 0), .fn 92 [] [.ptr 0 0]] zj11 ⟨0, 0, 0, 0, 2, 1⟩ (va { n := [C, M], a := [mpA iK iiE M []] }) (.new <| .stop [0, 1, 0, 1] zj8 zj6) 100000 (by kernel_rfl) hs rfl ?_
  refine d_new fun bk2 => ?_
  exact d_stop (w85_r1 Γ C M bk2  qj1) rfl rfl
abbrev w86Q (_Γ : Glob) (C M : Nat) (l : List Asrt) (Zq : Hp) (vq : SV) (hq : Hp) : Prop := (True) ∧ vq = .lit (.slice none 0 0) ∧ St Zq (own C (.cells [.map M] 77) :: mpA iK iiE M [] :: l) hq
theorem w86r (Γ : Glob) [Mute Γ] (C M : Nat)  {Z0 h : Hp} {l : List Asrt} (hs : St Z0 (own C (.cells [.map M] 77) :: mpA iK iiE M [] :: l) h) : Runs Tryz.prog Γ (.call 90 [.func (.func 92) [] [.ptr C 0]] h) fun oq => ∃ Z', Sub Z0 Z' ∧ w86Q Γ C M l Z' oq.v oq.hp := by
  refine sx_fnZ (Q := w86Q Γ C M l) Tryz.f90 Tryz.func90 (by kernel_rfl) [.fn 92 [] [.ptr 0 0]] zj11 ⟨0, 0, 0, 0, 2, 1⟩ (va { n := [C, M], a := [mpA iK iiE M []] }) (.call 171 [.lit (.slice none 0 0), .fn 92 [] [.ptr 0 0]] zj11 (.lit (.slice none 0 0)) zj12 ⟨0, 0, 0, 0, 2, 2⟩ <| .ret (.lit (.slice none 0 0)) zj12) 100000 (by kernel_rfl) hs rfl ?_
  refine d_call (α := Unit) (fun (_ : Unit) => { a := [mpA iK iiE M []] }) (fun (_ : Unit) => True) (fun l h hs => (w85r (h := h) (l := l) Γ C M  hs).mono fun _ ⟨Z1, z1, hq_, he_, hs_⟩ => ⟨Z1, z1, (), hq_, he_, hs_⟩) fun Z _ qd0 => ?_
  exact d_retZ fun h hs => ⟨qj0, qj3, hs⟩
abbrev w87Q (_Γ : Glob)  (l : List Asrt) (Zq : Hp) (vq : SV) (hq : Hp) : Prop := (True) ∧ vq = .tuple [] ∧ St Zq (l) hq
theorem w87r (Γ : Glob) [Mute Γ]   {Z0 h : Hp} {l : List Asrt} (hs : St Z0 (l) h) : Runs Tryz.prog Γ (.call 91 [.lit (.slice none 0 0)] h) fun oq => ∃ Z', Sub Z0 Z' ∧ w87Q Γ  l Z' oq.v oq.hp := by
  exact runs_now (N := 1000) (v := .tuple []) (by kernel_rfl) fun o e1 e2 => ⟨Z0, Sub.refl _, trivial, e1, by rw [e2]; exact hs⟩
abbrev w88Q (_Γ : Glob) (C M : Nat) (l : List Asrt) (Zq : Hp) (vq : SV) (hq : Hp) : Prop := (True) ∧ vq = .lit (.slice none 0 0) ∧ St Zq (own C (.cells [.map M] 77) :: mpA iK iiE M [] :: l) hq
theorem w88r (Γ : Glob) [Mute Γ] (C M : Nat)  {Z0 h : Hp} {l : List Asrt} (hs : St Z0 (own C (.cells [.map M] 77) :: mpA iK iiE M [] :: l) h) : Runs Tryz.prog Γ (.call 43 [.func (.func 92) [] [.ptr C 0]] h) fun oq => ∃ Z', Sub Z0 Z' ∧ w88Q Γ C M l Z' oq.v oq.hp := by
  refine sx_fnZ (Q := w88Q Γ C M l) Tryz.f43 Tryz.func43 (by kernel_rfl) [.fn 92 [] [.ptr 0 0]] zj11 ⟨0, 0, 0, 0, 2, 1⟩ (va { n := [C, M], a := [mpA iK iiE M []] }) (.call 90 [.fn 92 [] [.ptr 0 0]] zj11 (.lit (.slice none 0 0)) zj12 ⟨0, 0, 0, 0, 2, 2⟩ <| .call 91 [.lit (.slice none 0 0)] [] (.tup []) [] ⟨0, 0, 0, 0, 2, 2⟩ <| .ret (.lit (.slice none 0 0)) zj12) 100000 (by kernel_rfl) hs rfl ?_
  refine d_call (α := Unit) (fun (_ : Unit) => { a := [mpA iK iiE M []] }) (fun (_ : Unit) => True) (fun l h hs => (w86r (h := h) (l := l) Γ C M  hs).mono fun _ ⟨Z1, z1, hq_, he_, hs_⟩ => ⟨Z1, z1, (), hq_, he_, hs_⟩) fun Z _ qd0 => ?_
  refine d_call (α := Unit) (fun (_ : Unit) => {  }) (fun (_ : Unit) => True) (fun l h hs => (w87r (h := h) (l := l) Γ   hs).mono fun _ ⟨Z1, z1, hq_, he_, hs_⟩ => ⟨Z1, z1, (), hq_, he_, hs_⟩) fun Z _ qd1 => ?_
  exact d_retZ fun h hs => ⟨qj0, qj3, hs⟩
theorem w89_l1 (Γ : Glob) [Mute Γ] (C P M : Nat)  {Z0 : Hp} {B : Nat} {J0 : Asrt} {J : Nat → Asrt} {Q : Asrt} (h0 : ∀ Z l h, St Z ([] ++ J0 :: l) h → St Z (J 0 :: l) h) (_hr : Rounds Tryz.prog Γ B (0) (fun _k : Nat => [iV 0, iV 0]) (fun _k : Nat => []) J Q) (M10 C1 : Nat) {l : List Asrt} : ∀ (m : Nat) (Z : Hp)  (_hi : True) (_hm : 0 < m), den (fnC Tryz.prog Γ Tryz.f41 2 [] (subA Z0 :: l) (PostZ Z0 (fun Z _ h => St Z ([own C (.cells [.ptr P 0] 59), own P (.cells [.map M] 79), mpA iK iiE M []] ++ J (0) :: l) h ∨ St Z ([own C (.cells [.ptr P 0] 59), own P (.cells [.map M] 79), mpA iK iiE M []] ++ Q :: l) h))) (.stop [0, 1, 1, 1] zj4 zj5) ⟨0, 0, 0, 0, 6, 5⟩ (va { n := [B, C, P, M, M10, C1], a := [mpA iK iiE M [], J0, mpA iK iiE M ([]), mpA iK iiE M10 ([]), mpA iK iiE M10 []] }) Z := by
  intro m
  induction m with
  | zero => intros; omega
  | succ m ih =>
    intro Z  hi hm
    refine sx_loop [0, 1, 1, 1] zj4 zj5 [] ⟨0, 0, 0, 0, 6, 5⟩ (.swap [.asr 1] [.asr 5] ⟨0, 0, 0, 0, 6, 6⟩ <| .ret (.tup []) [.blk 1 [.ptr 2 0] 59, .blk 2 [.map 3] 79, .asr 2, .asr 5]) 100000 (by kernel_rfl) (fun _ h => by cases h) ?_
    refine d_swap (α := Unit) (fun (_ : Unit) => { a := [jz J 0] }) (fun (_ : Unit) => True) (fun l h hs => ⟨(), ⟨trivial, h0 _ _ _ hs⟩⟩) fun _ qs100 => ?_
    exact d_retZ fun h hs => .inl (jz_end (la := [own C (.cells [.ptr P 0] 59), own P (.cells [.map M] 79), mpA iK iiE M ([])]) qj1 hs)
theorem w89s (Γ : Glob) [Mute Γ] (C P M : Nat)  : SeqP Tryz.prog Γ 41 [] [.ptr C 0] (0) (fun _k : Nat => [iV 0, iV 0]) (fun _k : Nat => []) [own C (.cells [.ptr P 0] 59), own P (.cells [.map M] 79), mpA iK iiE M []] [] := by
  intro Z B J0 J Q l h h0 hr hs
  refine sx_fnZ (Q := fun Z _ h => St Z ([own C (.cells [.ptr P 0] 59), own P (.cells [.map M] 79), mpA iK iiE M []] ++ J (0) :: l) h ∨ St Z ([own C (.cells [.ptr P 0] 59), own P (.cells [.map M] 79), mpA iK iiE M []] ++ Q :: l) h) Tryz.f41 Tryz.func41 (by kernel_rfl) [.yield 0, .ptr 1 0] [.blk 1 [.ptr 2 0] 59, .blk 2 [.map 3] 79, .asr 0, .asr 1] ⟨0, 0, 0, 0, 4, 2⟩ (va { n := [B, C, P, M], a := [mpA iK iiE M [], J0] }) (.call 42 [.map 3] [.asr 0] (.map 4) [.asr 2, .asr 3] ⟨0, 0, 0, 0, 5, 4⟩ <| .call 44 [.map 4] [] (.fn 92 [] [.ptr 5 0]) [.blk 5 [.map 4] 77] ⟨0, 0, 0, 0, 6, 4⟩ <| .call 43 [.fn 92 [] [.ptr 5 0]] [.blk 5 [.map 4] 77, .asr 3] (.lit (.slice none 0 0)) [.blk 5 [.map 4] 77, .asr 4] ⟨0, 0, 0, 0, 6, 5⟩ <| .stop [0, 1, 1, 1] zj4 zj5) 100000 (by kernel_rfl) hs rfl ?_
  refine d_call (α := Nat) (fun (M10 : Nat) => { n := [M10], a := [mpA iK iiE M ([]), mpA iK iiE M10 ([])] }) (fun (M10 : Nat) => True) (fun l h hs => w82r (h := h) (l := l) Γ M ([])  hs) fun Z M10 qd0 => ?_
  refine d_call (α := Nat) (fun (C1 : Nat) => { n := [C1] }) (fun (C1 : Nat) => True) (fun l h hs => w83r (h := h) (l := l) Γ M10  hs) fun Z C1 qd1 => ?_
  refine d_call (α := Unit) (fun (_ : Unit) => { a := [mpA iK iiE M10 []] }) (fun (_ : Unit) => True) (fun l h hs => (w88r (h := h) (l := l) Γ C1 M10  hs).mono fun _ ⟨Z1, z1, hq_, he_, hs_⟩ => ⟨Z1, z1, (), hq_, he_, hs_⟩) fun Z _ qd2 => ?_
  exact d_stop (w89_l1 Γ C P M h0 hr M10 C1 _ _  qj1 (Nat.lt_succ_self _)) rfl rfl
abbrev w90Q (_Γ : Glob) (P : Nat) (a r0 c0 : Int) (l : List Asrt) (Zq : Hp) (vq : SV) (hq : Hp) : Prop := ∃ T : Nat, ∃ S0 : Nat, ∃ R2 : Nat, ∃ C2 : Nat, ∃ K2 : Nat, ∃ N2 : Nat, (True) ∧ vq = .ptr T 0 ∧ St Zq (own P (.cells [.lit (.map none), .lit (.map none), .lit (.map none), iV a, iV r0, iV c0, .lit (.slice none 0 0), .lit (.map none), .lit (.map none), .lit (.map none), .ptr S0 0, bV true] 89) :: own T (.cells [.ptr R2 0, .ptr C2 0, .ptr K2 0, .ptr N2 0] 98) :: axA R2 (firstAx (cutN r0)) :: axA C2 (firstAx (cutN c0)) :: own K2 (.cells [.lit (.map none)] 231) :: own N2 (.cells [.lit (.map none)] 241) :: l) hq
theorem w90r (Γ : Glob) [Mute Γ] (P : Nat) (a r0 c0 : Int)  {Z0 h : Hp} {l : List Asrt} (hs : St Z0 (own P (.cells [.lit (.map none), .lit (.map none), .lit (.map none), iV a, iV r0, iV c0, .lit (.slice none 0 0), .lit (.map none), .lit (.map none), .lit (.map none), .lit (.pointer none), bV false] 89) :: l) h) : Runs Tryz.prog Γ (.call 16 [.ptr P 0] h) fun oq => ∃ Z', Sub Z0 Z' ∧ w90Q Γ P a r0 c0 l Z' oq.v oq.hp := by
  refine sx_fnZ (Q := w90Q Γ P a r0 c0 l) Tryz.f16 Tryz.func16 (by kernel_rfl) [.ptr 0 0] zj0 ⟨3, 0, 0, 0, 1, 0⟩ (va { i := [a, r0, c0], n := [P] }) (.call 23 [.ptr 0 0] zj0 (.ptr 1 0) [.blk 0 zj2 89, .blk 1 zj9 98, .asr 0, .asr 1, .blk 4 [.lit (.map none)] 231, .blk 5 [.lit (.map none)] 241] ⟨6, 0, 0, 0, 6, 2⟩ <| .call 45 [.ptr 1 0] [.blk 1 zj9 98, .asr 0, .asr 1, .blk 4 [.lit (.map none)] 231, .blk 5 [.lit (.map none)] 241] (.ptr 6 0) [.blk 1 zj9 98, .asr 2, .asr 3, .blk 4 [.lit (.map none)] 231, .blk 5 [.lit (.map none)] 241, .blk 6 [.ptr 7 0, .ptr 8 0, .ptr 9 0, .ptr 10 0] 98, .asr 4, .asr 5, .blk 9 [.lit (.map none)] 231, .blk 10 [.lit (.map none)] 241] ⟨6, 0, 0, 0, 11, 6⟩ <| .ret (.ptr 6 0) [.blk 0 zj2 89, .blk 6 [.ptr 7 0, .ptr 8 0, .ptr 9 0, .ptr 10 0] 98, .asr 4, .asr 5, .blk 9 [.lit (.map none)] 231, .blk 10 [.lit (.map none)] 241]) 100000 (by kernel_rfl) hs rfl ?_
  refine d_call (α := Nat × Nat × Nat × Nat × Nat) (fun (⟨S0, R0, C0, K0, N0⟩ : Nat × Nat × Nat × Nat × Nat) => { i := [a, r0, c0], n := [S0, R0, C0, K0, N0], a := [axA R0 (firstAx (cutN r0)), axA C0 (firstAx (cutN c0))] }) (fun (⟨S0, R0, C0, K0, N0⟩ : Nat × Nat × Nat × Nat × Nat) => True) (fun l h hs => (w79r (h := h) (l := l) Γ P a r0 c0  hs).mono fun _ ⟨Z1, z1, S0, R0, C0, K0, N0, hq_, he_, hs_⟩ => ⟨Z1, z1, ⟨S0, R0, C0, K0, N0⟩, hq_, he_, hs_⟩) fun Z ⟨S0, R0, C0, K0, N0⟩ qd0 => ?_
  refine d_call (α := Nat × Nat × Nat × Nat × Nat) (fun (⟨T1, R21, C21, K21, N21⟩ : Nat × Nat × Nat × Nat × Nat) => { n := [T1, R21, C21, K21, N21], a := [axA R0 (firstAx (cutN r0)), axA C0 (firstAx (cutN c0)), axA R21 (firstAx (cutN r0)), axA C21 (firstAx (cutN c0))] }) (fun (⟨T1, R21, C21, K21, N21⟩ : Nat × Nat × Nat × Nat × Nat) => True) (fun l h hs => (w23r (h := h) (l := l) Γ S0 R0 C0 K0 N0 (firstAx (cutN r0)) (firstAx (cutN c0)) qj2 qj2 qj2 qj2 qj2 qj2 hs).mono fun _ ⟨Z1, z1, T1, R21, C21, K21, N21, hq_, he_, hs_⟩ => ⟨Z1, z1, ⟨T1, R21, C21, K21, N21⟩, hq_, he_, hs_⟩) fun Z ⟨T1, R21, C21, K21, N21⟩ qd1 => ?_
  exact d_retZ fun h hs => ⟨T1, S0, R21, C21, K21, N21, qj0, by first | rfl | (show (.ptr T1 0 : SV) = _; simp_all), hs⟩
abbrev w91Q (_Γ : Glob) (P : Nat) (a r0 c0 : Int) (S : Nat) (l : List Asrt) (Zq : Hp) (vq : SV) (hq : Hp) : Prop := (True) ∧ vq = .lit (.slice none 0 0) ∧ St Zq (own P (.cells [.lit (.map none), .lit (.map none), .lit (.map none), iV a, iV r0, iV c0, .lit (.slice none 0 0), .lit (.map none), .lit (.map none), .lit (.map none), .ptr S 0, bV true] 89) :: l) hq
noncomputable abbrev w91C (Γ : Glob) (P : Nat) (a r0 c0 : Int) (S : Nat) (Z0 : Hp) (l : List Asrt) : Cx := fnC Tryz.prog Γ Tryz.f17 2 [] (subA Z0 :: l) (PostZ Z0 (w91Q Γ P a r0 c0 S l))
theorem w91_l1 (Γ : Glob) [Mute Γ] (P : Nat) (a r0 c0 : Int) (S : Nat)  {Z0 : Hp} {l : List Asrt} : ∀ (m : Nat) (Z : Hp)  (_hi : True) (_hm : 0 < m), den (w91C Γ P a r0 c0 S Z0 l) (.stop [0, 1, 0, 1, 1, 1] zj3 zj1) ⟨3, 0, 0, 0, 2, 0⟩ (va { i := [a, r0, c0], n := [P, S] }) Z := by
  intro m
  induction m with
  | zero => intros; omega
  | succ m ih =>
    intro Z  hi hm
    refine sx_loop [0, 1, 0, 1, 1, 1] zj3 zj1 [] ⟨3, 0, 0, 0, 2, 0⟩ (.ret (.lit (.slice none 0 0)) zj1) 100000 (by kernel_rfl) (fun _ h => by cases h) ?_
    exact d_retZ fun h hs => ⟨qj0, qj3, hs⟩
theorem w91r (Γ : Glob) [Mute Γ] (P : Nat) (a r0 c0 : Int) (S : Nat)  {Z0 h : Hp} {l : List Asrt} (hs : St Z0 (own P (.cells [.lit (.map none), .lit (.map none), .lit (.map none), iV a, iV r0, iV c0, .lit (.slice none 0 0), .lit (.map none), .lit (.map none), .lit (.map none), .ptr S 0, bV true] 89) :: l) h) : Runs Tryz.prog Γ (.call 17 [.ptr P 0, .lit (.pointer none)] h) fun oq => ∃ Z', Sub Z0 Z' ∧ w91Q Γ P a r0 c0 S l Z' oq.v oq.hp := by
  refine sx_fnZ (Q := w91Q Γ P a r0 c0 S l) Tryz.f17 Tryz.func17 (by kernel_rfl) [.ptr 0 0, .lit (.pointer none)] zj1 ⟨3, 0, 0, 0, 2, 0⟩ (va { i := [a, r0, c0], n := [P, S] }) (.stop [0, 1, 0, 1, 1, 1] zj3 zj1) 100000 (by kernel_rfl) hs rfl ?_
  exact d_stop (w91_l1 Γ P a r0 c0 S  _ _  qj1 (Nat.lt_succ_self _)) rfl rfl
end Go.Proofs.YtdhmljjpiainnaaGreatDoor.Sx
