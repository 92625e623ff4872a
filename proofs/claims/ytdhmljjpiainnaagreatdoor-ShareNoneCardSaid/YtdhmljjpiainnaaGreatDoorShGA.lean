/-
  AXES, by certificate; by the author of this claim. | AXES: what is asked, by certificate; by the author of this claim.
-/
import Derived.Test.YtdhmljjpiainnaaGreatDoorSxGE
namespace Go.Proofs.YtdhmljjpiainnaaGreatDoor.Sx
open Go Go.Proofs.YtdhmljjpiainnaaGreatDoor.Ev
set_option maxRecDepth 20000
set_option maxHeartbeats 4000000
abbrev I6 (x : Int) : Prop := (-9223372036854775808 ≤ x) ∧ (x < 9223372036854775808)
abbrev xI (e : X) : X := .and (.le (.z (-9223372036854775808)) e) (.lt e (.z 9223372036854775808))
abbrev za0 : List MI := [.asr 6, .asr 5, .asr 4, .blk 0 [.raw 1, .raw 2, .lit (.map none), .lit (.slice none 0 0), .lit (.slice none 0 0)] 204, .asr 0]
abbrev za1 : List MI := [.blk 0 [.raw 1, .raw 2, .lit (.map none), .lit (.slice none 0 0), .lit (.slice none 0 0)] 204, .asr 4, .asr 5]
abbrev za2 : List MI := [.asr 10, .asr 8, .asr 9, .blk 0 [.raw 0, .raw 1, .map 1, .raw 5, .raw 6] 204, .asr 1, .asr 2]
abbrev za3 : List (Nat × XV) := [(3, .ptr 0 0), (4, .map 1), (10, .raw 0), (11, I (.v 0)), (12, I (.add (.v 1) (.z 1)))]
abbrev za4 : List (Nat × XV) := [(0, .ptr 0 0), (30, .raw 0), (31, I (.v 2)), (32, I (.add (.v 3) (.z 1)))]
abbrev za5 : List (Nat × XV) := [(3, .ptr 0 0), (4, .map 1), (10, .raw 0), (11, I (.v 0)), (12, I (.v 1))]
abbrev za6 : List (Nat × XV) := [(0, .ptr 0 0), (30, .raw 0), (31, I (.v 2)), (32, I (.v 3))]
theorem qa0 {P : Prop} (h : P := by first | omega | exact ready_end hi.2.2.2.2 (by omega) (by omega) | first | omega | (and_intros <;> intros <;> and_intros <;> first | omega | assumption | exact ready_0 | exact ready_live hi.2.2.2.2 (by omega) (by omega) h1.1 (by omega) (by assumption) | exact ready_dead hi.2.2.2.2 (by omega) (by omega) h1.1 (by omega) (by assumption) | (simp only [idsOf, livOf, lset, List.length_map, List.length_set, List.length_append, List.length_replicate, List.length_cons, List.length_nil] at *; omega) | (simp at *; omega) | (simp_all; done) | (simp_all; omega))) : P := h
theorem qa1 {P : Prop} (h : P := by first | omega | (and_intros <;> intros <;> and_intros <;> first | omega | assumption | exact new_0 | exact new_step hi.2.2.2.2 (by omega) | (exfalso; have := new_fresh hi.2.2.2.2 (by omega) h1.1 h1.2.1; simp_all; done) | (simp only [List.length_append, List.length_cons, List.length_nil]; omega) | (simp at *; omega) | (simp_all; done) | (simp_all; omega))) : P := h
theorem qa2 {P : Prop} (h : P := by first | trivial | omega | (and_intros <;> intros <;> and_intros <;> first | trivial | omega | assumption | (simp at *; omega) | (simp_all; done) | (simp_all; omega))) : P := h
theorem qa3 {P : Prop} (h : P := by first | rfl | rfl) : P := h
theorem qa4 {P : Prop} (h : P := by first | rfl | (show (.ptr bk0 0 : SV) = _; simp_all)) : P := h
theorem qa5 {P : Prop} (h : P := by first | exact hs | (rw [new_end hi.2.2.2.2 (by omega)] at hs; exact hs) | (exfalso; omega)) : P := h
theorem qa6 {P : Prop} (h : P := by first | rfl | (show (.tuple [] : SV) = _; simp_all)) : P := h
abbrev w1Q (_Γ : Glob) (v : SV) (L : List IdL) (l : List Asrt) (Zq : Hp) (vq : SV) (hq : Hp) : Prop := ∃ P : Nat, (True) ∧ vq = .ptr P 0 ∧ St Zq (lsA 25 2 idE (oneS v) L :: axA P (L.map fun x => (x, true)) :: l) hq
noncomputable abbrev w1C (Γ : Glob) (v : SV) (L : List IdL) (Z0 : Hp) (l : List Asrt) : Cx := fnC Tryz.prog Γ Tryz.f181 1 [] (subA Z0 :: l) (PostZ Z0 (w1Q Γ v L l))
theorem w1_l1 (Γ : Glob) [Mute Γ] (v : SV) (L : List IdL) (h1 : L.Nodup ∧ ((0, 0) : IdL) ∉ L ∧ (L.length : Int) ≤ 1000) (bk0 bk1 : Nat) {Z0 : Hp} {l : List Asrt} : ∀ (m : Nat) (Z : Hp) (i : Int) (a0 a1 : SV) (X : List IdL) (Y : List Bool) (C : List (IdL × Bool)) (_hi : 0 ≤ i ∧ i ≤ (L.length : Int) ∧ (X.length : Int) = i ∧ (Y.length : Int) = i ∧ NewI L i X Y C) (_hm : ((L.length : Int) - i).toNat < m), den (w1C Γ v L Z0 l) (.stop [0, 1, 0, 1, 1, 1] za5 za0) ⟨2, 0, 0, 3, 2, 7⟩ (va { i := [(L.length : Int), i], r := [v, a0, a1], n := [bk0, bk1], a := [lsA 25 2 idE (oneS v) L, lsA 25 2 idE (oneS (.lit (.slice none 0 0))) [], lsA 4 1 boE (oneS (.lit (.slice none 0 0))) [], mpA idK bbE bk1 [], lsA 25 2 idE (oneS a0) X, lsA 4 1 boE (oneS a1) Y, mpA idK bbE bk1 C] }) Z := by
  intro m
  induction m with
  | zero => intros; omega
  | succ m ih =>
    intro Z i a0 a1 X Y C hi hm
    refine sx_loop [0, 1, 0, 1, 1, 1] za5 za0 [] ⟨2, 0, 0, 3, 2, 7⟩ (.fork (.lt (.v 1) (.v 0)) (.row (.idxA 43 (.raw 0) (I (.v 1))) [.asr 0] (.raw 3) ⟨2, 0, 0, 4, 2, 7⟩ <| .row (.load 25 (.raw 3)) [.asr 0] (.agg [I (.v 2), I (.v 3)]) ⟨4, 0, 0, 4, 2, 7⟩ <| .new <| .row (.len 43 (.raw 1)) [.asr 4] (I (.v 4)) ⟨5, 0, 0, 4, 3, 7⟩ <| .fork (.eq (.v 4) (.z 1000)) (.swap za1 [.asr 7] ⟨5, 0, 0, 4, 3, 8⟩ <| .ret (.ptr 0 0) [.asr 0, .asr 7]) <| .fork (.and (.eq (.v 2) (.z 0)) (.eq (.v 3) (.z 0))) (.vc (xI (.add (.v 1) (.z 1))) <| .stop [0, 1, 0, 1, 1, 1] za3 za0) <| .row (.look 87 (.map 1) (.agg [I (.v 2), I (.v 3)]) false) [.asr 6] (.bool (.bv 0)) ⟨5, 0, 1, 4, 3, 7⟩ <| .fork (.bv 0) (.vc (xI (.add (.v 1) (.z 1))) <| .stop [0, 1, 0, 1, 1, 1] za3 za0) <| .eff (.upd 87 (.map 1) (.agg [I (.v 2), I (.v 3)]) (.bool (.bl true))) [.asr 6] (.lit (.tuple #[])) [.asr 7] ⟨5, 0, 1, 4, 3, 8⟩ <| .new <| .eff (.app [43, 43] (.raw 1) (.slice 3 0 1 1)) [.asr 4, .blk 3 [I (.v 2), I (.v 3)] 25] (.raw 4) [.asr 8] ⟨5, 0, 1, 5, 4, 9⟩ <| .new <| .eff (.app [199, 199] (.raw 2) (.slice 4 0 1 1)) [.asr 5, .blk 4 [.bool (.bl true)] 4] (.raw 5) [.asr 9] ⟨5, 0, 1, 6, 5, 10⟩ <| .vc (xI (.add (.v 1) (.z 1))) <| .stop [0, 1, 0, 1, 1, 1] za3 [.asr 7, .asr 9, .asr 8, .blk 0 [.raw 4, .raw 5, .lit (.map none), .lit (.slice none 0 0), .lit (.slice none 0 0)] 204, .asr 0]) <| .swap za1 [.asr 7] ⟨2, 0, 0, 3, 2, 8⟩ <| .ret (.ptr 0 0) [.asr 0, .asr 7]) 100000 (by kernel_rfl) (fun _ h => by cases h) ?_
    refine d_if (fun (cd1 : i < (L.length : Int)) => ?_) (fun (cd1 : ¬ (i < (L.length : Int))) => ?_)
    · refine d_row { r := [(elP (oneS v) (Int.toNat i * 2))] } True (fun l h hs => ls_idx (m := l) (h := h) (i := i) rfl rfl hs qa1 qa1) fun _ => ?_
      refine d_row { i := [(((lget L i)).1), (((lget L i)).2)] } True (fun l h hs => ls_load (m := l) (h := h) (i := i) rfl rfl hs qa1 qa1) fun _ => ?_
      refine d_new fun bk2 => ?_
      refine d_row { i := [(X.length : Int)] } True (fun l h hs => ls_len (m := l) (h := h) rfl (fun _ => rfl) hs) fun _ => ?_
      refine d_if (fun (cd2 : (X.length : Int) = 1000) => ?_) (fun (cd2 : ¬ ((X.length : Int) = 1000)) => ?_)
      · refine d_swap (α := Unit) (fun (_ : Unit) => { a := [axA bk0 (List.zip X Y)] }) (fun (_ : Unit) => True) (fun l h hs => ⟨(), ⟨trivial, ax_nonez qa1 (hs) (l := l) (h := h)⟩⟩) fun _ qs100 => ?_
        exact d_retZ fun h hs => ⟨bk0, qa2, qa4, qa5⟩
      · refine d_if (fun (cd3 : ((((lget L i)).1) = 0) ∧ ((((lget L i)).2) = 0)) => ?_) (fun (cd3 : ¬ (((((lget L i)).1) = 0) ∧ ((((lget L i)).2) = 0))) => ?_)
        · refine d_vc (show I6 (i + 1) from qa1) ?_
          exact d_stop (ih _ (i + 1) a0 a1 X Y C qa1 qa1) rfl rfl
        · refine d_row { b := [(mget C ((((lget L i)).1), (((lget L i)).2)))] } True (fun l h hs => mp_get (m := l) (h := h) (kc := idK) (ve := bbE) (L := C) (k := ((((lget L i)).1), (((lget L i)).2))) rfl idK_key rfl rfl hs) fun _ => ?_
          refine d_if (fun (cd4 : (mget C ((((lget L i)).1), (((lget L i)).2))) = true) => ?_) (fun (cd4 : ¬ ((mget C ((((lget L i)).1), (((lget L i)).2))) = true)) => ?_)
          · refine d_vc (show I6 (i + 1) from qa1) ?_
            exact d_stop (ih _ (i + 1) a0 a1 X Y C qa1 qa1) rfl rfl
          · refine d_eff (fun (_ : Unit) => { a := [mpA idK bbE bk1 (mset C ((((lget L i)).1), (((lget L i)).2)) true)] }) (fun _ => True) (fun l h hs => mp_set (m := l) (h := h) (k := ((((lget L i)).1), (((lget L i)).2))) (x := true) rfl idK_key hs rfl rfl) fun _ _ => ?_
            refine d_new fun bk3 => ?_
            refine d_eff (fun (v102 : SV) => { r := [v102], a := [lsA 25 2 idE (oneS v102) (X ++ [((((lget L i)).1), (((lget L i)).2))])] }) (fun _ => True) (fun l h hs => ls_push (m := l) (h := h) rfl idE_info (by decide) hs qa3 rfl rfl qa1) fun v102 _ => ?_
            refine d_new fun bk4 => ?_
            refine d_eff (fun (v103 : SV) => { r := [v103], a := [lsA 4 1 boE (oneS v103) (Y ++ [true])] }) (fun _ => True) (fun l h hs => ls_push (m := l) (h := h) rfl boE_info (by decide) hs qa3 rfl rfl qa1) fun v103 _ => ?_
            refine d_vc (show I6 (i + 1) from qa1) ?_
            exact d_stop (ih _ (i + 1) v102 v103 (X ++ [((((lget L i)).1), (((lget L i)).2))]) (Y ++ [true]) (mset C ((((lget L i)).1), (((lget L i)).2)) true) qa1 qa1) rfl rfl
    · refine d_swap (α := Unit) (fun (_ : Unit) => { a := [axA bk0 (List.zip X Y)] }) (fun (_ : Unit) => True) (fun l h hs => ⟨(), ⟨trivial, ax_nonez qa1 (hs) (l := l) (h := h)⟩⟩) fun _ qs104 => ?_
      exact d_retZ fun h hs => ⟨bk0, qa2, qa4, qa5⟩
theorem w1r (Γ : Glob) [Mute Γ] (v : SV) (L : List IdL) (h1 : L.Nodup ∧ ((0, 0) : IdL) ∉ L ∧ (L.length : Int) ≤ 1000) {Z0 h : Hp} {l : List Asrt} (hs : St Z0 (lsA 25 2 idE (oneS v) L :: l) h) : Runs Tryz.prog Γ (.call 181 [(oneS v)] h) fun oq => ∃ Z', Sub Z0 Z' ∧ w1Q Γ v L l Z' oq.v oq.hp := by
  refine sx_fnZ (Q := w1Q Γ v L l) Tryz.f181 Tryz.func181 (by kernel_rfl) [.raw 0] [.asr 0] ⟨0, 0, 0, 1, 0, 1⟩ (va { r := [v], a := [lsA 25 2 idE (oneS v) L] }) (.new <| .new <| .row (.len 43 (.raw 0)) [.asr 0] (I (.v 0)) ⟨1, 0, 0, 1, 2, 1⟩ <| .swap [] [.asr 1] ⟨1, 0, 0, 1, 2, 2⟩ <| .swap [] [.asr 2] ⟨1, 0, 0, 1, 2, 3⟩ <| .swap [.obj 1 (.map [] 0)] [.asr 3] ⟨1, 0, 0, 1, 2, 4⟩ <| .stop [0, 1, 0, 1, 1, 1] [(3, .ptr 0 0), (4, .map 1), (10, .raw 0), (11, I (.v 0)), (12, I (.z 0))] [.asr 3, .asr 2, .asr 1, .blk 0 [.lit (.slice none 0 0), .lit (.slice none 0 0), .lit (.map none), .lit (.slice none 0 0), .lit (.slice none 0 0)] 204, .asr 0]) 100000 (by kernel_rfl) hs rfl ?_
  refine d_new fun bk0 => ?_
  refine d_new fun bk1 => ?_
  refine d_row { i := [(L.length : Int)] } True (fun l h hs => ls_len (m := l) (h := h) rfl (fun _ => rfl) hs) fun _ => ?_
  refine d_swap (α := Unit) (fun (_ : Unit) => { a := [lsA 25 2 idE (oneS (.lit (.slice none 0 0))) []] }) (fun (_ : Unit) => True) (fun l h hs => ⟨(), ⟨trivial, ls_nil (hs) (m := l) (h := h)⟩⟩) fun _ qs0 => ?_
  refine d_swap (α := Unit) (fun (_ : Unit) => { a := [lsA 4 1 boE (oneS (.lit (.slice none 0 0))) []] }) (fun (_ : Unit) => True) (fun l h hs => ⟨(), ⟨trivial, ls_nil (hs) (m := l) (h := h)⟩⟩) fun _ qs1 => ?_
  refine d_swap (α := Unit) (fun (_ : Unit) => { a := [mpA idK bbE bk1 []] }) (fun (_ : Unit) => True) (fun l h hs => ⟨(), ⟨trivial, mp_new (hs) (m := l) (h := h)⟩⟩) fun _ qs2 => ?_
  exact d_stop (w1_l1 Γ v L h1 bk0 bk1 _ _ 0 (.lit (.slice none 0 0)) (.lit (.slice none 0 0)) ([]) ([]) ([]) qa1 (Nat.lt_succ_self _)) rfl rfl
abbrev w2Q (_Γ : Glob) (P : Nat) (A : AX) (l : List Asrt) (Zq : Hp) (vq : SV) (hq : Hp) : Prop := (True) ∧ vq = .tuple [] ∧ St Zq (axR P A :: l) hq
noncomputable abbrev w2C (Γ : Glob) (P : Nat) (A : AX) (Z0 : Hp) (l : List Asrt) : Cx := fnC Tryz.prog Γ Tryz.f99 1 [] (subA Z0 :: l) (PostZ Z0 (w2Q Γ P A l))
theorem w2_l1 (Γ : Glob) [Mute Γ] (P : Nat) (A : AX) (h1 : (idsOf A).Nodup ∧ (A.length : Int) ≤ 1000) (hL : ((idsOf A).length : Int) = A.length) (hM : ((livOf A).length : Int) = A.length) (x0 y0 : SV) (s0 a0 b0 : SV) (q0 : Bool) (bk1 : Nat) (v5 : SV) {Z0 : Hp} {l : List Asrt} : ∀ (m : Nat) (Z : Hp) (i : Int) (al : SV) (C : List (IdL × Int)) (H : List Int) (V : List IdL) (_hi : 0 ≤ i ∧ i ≤ (A.length : Int) ∧ (H.length : Int) = A.length ∧ (V.length : Int) ≤ i ∧ ReadyI A i C H V) (_hm : ((A.length : Int) - i).toNat < m), den (w2C Γ P A Z0 l) (.stop [0, 1, 1, 1, 1] za6 za2) ⟨4, 0, 1, 7, 2, 11⟩ (va { i := [((idsOf A).length : Int), ((idsOf A).length : Int), ((idsOf A).length : Int), i], b := [q0], r := [x0, y0, s0, a0, b0, v5, al], n := [P, bk1], a := [axA P A, lsA 25 2 idE (oneS x0) (idsOf A), lsA 4 1 boE (oneS y0) (livOf A), yA q0 (madeA A (oneS s0) (oneS a0) (oneS b0)) (noneA (oneS s0) (oneS a0) (oneS b0)), noneA (oneS s0) (oneS a0) (oneS b0), lsA 3 1 inE (oneS v5) (List.replicate (Int.toNat ((idsOf A).length : Int)) (0 : Int)), mpA idK iiE bk1 [], lsA 25 2 idE (oneS b0) [], mpA idK iiE bk1 C, lsA 3 1 inE (oneS v5) H, lsA 25 2 idE (oneS al) V] }) Z := by
  intro m
  induction m with
  | zero => intros; omega
  | succ m ih =>
    intro Z i al C H V hi hm
    refine sx_loop [0, 1, 1, 1, 1] za6 za2 [] ⟨4, 0, 1, 7, 2, 11⟩ (.fork (.lt (.v 3) (.v 2)) (.row (.idxA 43 (.raw 0) (I (.v 3))) [.asr 1] (.raw 7) ⟨4, 0, 1, 8, 2, 11⟩ <| .row (.load 25 (.raw 7)) [.asr 1] (.agg [I (.v 4), I (.v 5)]) ⟨6, 0, 1, 8, 2, 11⟩ <| .new <| .eff (.upd 202 (.map 1) (.agg [I (.v 4), I (.v 5)]) (I (.v 3))) [.asr 8] (.lit (.tuple #[])) [.asr 11] ⟨6, 0, 1, 8, 3, 12⟩ <| .row (.len 43 (.raw 6)) [.asr 10] (I (.v 6)) ⟨7, 0, 1, 8, 3, 12⟩ <| .row (.idxA 121 (.raw 5) (I (.v 3))) [.asr 9] (.raw 8) ⟨7, 0, 1, 9, 3, 12⟩ <| .eff (.store 3 (.raw 8) (I (.v 6))) [.asr 9] (.lit (.tuple #[])) [.asr 12] ⟨7, 0, 1, 9, 3, 13⟩ <| .row (.idxA 199 (.raw 1) (I (.v 3))) [.asr 2] (.raw 9) ⟨7, 0, 1, 10, 3, 13⟩ <| .row (.load 4 (.raw 9)) [.asr 2] (.bool (.bv 1)) ⟨7, 0, 2, 10, 3, 13⟩ <| .fork (.bv 1) (.new <| .eff (.app [43, 43] (.raw 6) (.slice 3 0 1 1)) [.asr 10, .blk 3 [I (.v 4), I (.v 5)] 25] (.raw 10) [.asr 13] ⟨7, 0, 2, 11, 4, 14⟩ <| .vc (xI (.add (.v 3) (.z 1))) <| .stop [0, 1, 1, 1, 1] za4 [.asr 13, .asr 11, .asr 12, .blk 0 [.raw 0, .raw 1, .map 1, .raw 5, .raw 10] 204, .asr 1, .asr 2]) <| .vc (xI (.add (.v 3) (.z 1))) <| .stop [0, 1, 1, 1, 1] za4 [.asr 10, .asr 11, .asr 12, .blk 0 [.raw 0, .raw 1, .map 1, .raw 5, .raw 6] 204, .asr 1, .asr 2]) <| .swap [.blk 0 [.raw 0, .raw 1, .map 1, .raw 5, .raw 6] 204, .asr 1, .asr 2, .asr 8, .asr 9, .asr 10] [.asr 11] ⟨4, 0, 1, 7, 2, 12⟩ <| .ret (.tup []) [.asr 11]) 100000 (by kernel_rfl) (fun _ h => by cases h) ?_
    refine d_if (fun (cd1 : i < ((idsOf A).length : Int)) => ?_) (fun (cd1 : ¬ (i < ((idsOf A).length : Int))) => ?_)
    · refine d_row { r := [(elP (oneS x0) (Int.toNat i * 2))] } True (fun l h hs => ls_idx (m := l) (h := h) (i := i) rfl rfl hs qa0 qa0) fun _ => ?_
      refine d_row { i := [(((lget (idsOf A) i)).1), (((lget (idsOf A) i)).2)] } True (fun l h hs => ls_load (m := l) (h := h) (i := i) rfl rfl hs qa0 qa0) fun _ => ?_
      refine d_new fun bk2 => ?_
      refine d_eff (fun (_ : Unit) => { a := [mpA idK iiE bk1 (mset C ((((lget (idsOf A) i)).1), (((lget (idsOf A) i)).2)) i)] }) (fun _ => True) (fun l h hs => mp_set (m := l) (h := h) (k := ((((lget (idsOf A) i)).1), (((lget (idsOf A) i)).2))) (x := i) rfl idK_key hs rfl rfl) fun _ _ => ?_
      refine d_row { i := [(V.length : Int)] } True (fun l h hs => ls_len (m := l) (h := h) rfl (fun _ => rfl) hs) fun _ => ?_
      refine d_row { r := [(elP (oneS v5) (Int.toNat i * 1))] } True (fun l h hs => ls_idx (m := l) (h := h) (i := i) rfl rfl hs qa0 qa0) fun _ => ?_
      refine d_eff (fun (_ : Unit) => { a := [lsA 3 1 inE (oneS v5) (lset H i (V.length : Int))] }) (fun _ => True) (fun l h hs => ls_set (m := l) (h := h) (i := i) rfl hs qa0 qa0 rfl rfl (by rfl)) fun _ _ => ?_
      refine d_row { r := [(elP (oneS y0) (Int.toNat i * 1))] } True (fun l h hs => ls_idx (m := l) (h := h) (i := i) rfl rfl hs qa0 qa0) fun _ => ?_
      refine d_row { b := [(lget (livOf A) i)] } True (fun l h hs => ls_load1 (m := l) (h := h) (i := i) rfl rfl hs qa0 qa0 rfl) fun _ => ?_
      refine d_if (fun (cd2 : (lget (livOf A) i) = true) => ?_) (fun (cd2 : ¬ ((lget (livOf A) i) = true)) => ?_)
      · refine d_new fun bk3 => ?_
        refine d_eff (fun (v101 : SV) => { r := [v101], a := [lsA 25 2 idE (oneS v101) (V ++ [((((lget (idsOf A) i)).1), (((lget (idsOf A) i)).2))])] }) (fun _ => True) (fun l h hs => ls_push (m := l) (h := h) rfl idE_info (by decide) hs qa3 rfl rfl qa0) fun v101 _ => ?_
        refine d_vc (show I6 (i + 1) from qa0) ?_
        exact d_stop (ih _ (i + 1) v101 (mset C ((((lget (idsOf A) i)).1), (((lget (idsOf A) i)).2)) i) (lset H i (V.length : Int)) (V ++ [((((lget (idsOf A) i)).1), (((lget (idsOf A) i)).2))]) qa0 qa0) rfl rfl
      · refine d_vc (show I6 (i + 1) from qa0) ?_
        exact d_stop (ih _ (i + 1) al (mset C ((((lget (idsOf A) i)).1), (((lget (idsOf A) i)).2)) i) (lset H i (V.length : Int)) V qa0 qa0) rfl rfl
    · refine d_swap (α := Unit) (fun (_ : Unit) => { a := [axR P A] }) (fun (_ : Unit) => True) (fun l h hs => ⟨(), ⟨trivial, axr_made qa0 (hs) (l := l) (h := h)⟩⟩) fun _ qs102 => ?_
      exact d_retZ fun h hs => ⟨qa2, qa6, hs⟩
theorem w2r (Γ : Glob) [Mute Γ] (P : Nat) (A : AX) (h1 : (idsOf A).Nodup ∧ (A.length : Int) ≤ 1000) (hL : ((idsOf A).length : Int) = A.length) (hM : ((livOf A).length : Int) = A.length) {Z0 h : Hp} {l : List Asrt} (hs : St Z0 (axA P A :: l) h) : Runs Tryz.prog Γ (.call 99 [.ptr P 0] h) fun oq => ∃ Z', Sub Z0 Z' ∧ w2Q Γ P A l Z' oq.v oq.hp := by
  refine sx_fnZ (Q := w2Q Γ P A l) Tryz.f99 Tryz.func99 (by kernel_rfl) [.ptr 0 0] [.asr 0] ⟨0, 0, 0, 0, 1, 1⟩ (va { n := [P], a := [axA P A] }) (.swap [.asr 0] [.blk 0 [.raw 0, .raw 1, .raw 2, .raw 3, .raw 4] 204, .asr 1, .asr 2, .asr 3] ⟨0, 0, 0, 5, 1, 4⟩ <| .row (.bin .neq 202 (.raw 2) (.lit (.map none))) [.asr 3] (.bool (.bv 0)) ⟨0, 0, 1, 5, 1, 4⟩ <| .fork (.bv 0) (.swap [.asr 3] [.asr 4] ⟨0, 0, 1, 5, 1, 5⟩ <| .swap [.blk 0 [.raw 0, .raw 1, .raw 2, .raw 3, .raw 4] 204, .asr 1, .asr 2, .asr 4] [.asr 5] ⟨0, 0, 1, 5, 1, 6⟩ <| .ret (.tup []) [.asr 5]) <| .swap [.asr 3] [.asr 4] ⟨0, 0, 1, 5, 1, 5⟩ <| .row (.len 43 (.raw 0)) [.asr 1] (I (.v 0)) ⟨1, 0, 1, 5, 1, 5⟩ <| .new <| .row (.len 43 (.raw 0)) [.asr 1] (I (.v 1)) ⟨2, 0, 1, 5, 2, 5⟩ <| .eff (.mks 121 (I (.v 1)) (I (.v 1))) [] (.raw 5) [.asr 5] ⟨2, 0, 1, 6, 2, 6⟩ <| .row (.len 43 (.raw 0)) [.asr 1] (I (.v 2)) ⟨3, 0, 1, 6, 2, 6⟩ <| .swap [.obj 1 (.map [] 0)] [.asr 6] ⟨3, 0, 1, 6, 2, 7⟩ <| .swap [.asr 4] [.asr 7] ⟨3, 0, 1, 6, 2, 8⟩ <| .stop [0, 1, 1, 1, 1] [(0, .ptr 0 0), (30, .raw 0), (31, I (.v 2)), (32, I (.z 0))] [.asr 7, .asr 6, .asr 5, .blk 0 [.raw 0, .raw 1, .map 1, .raw 5, .raw 4] 204, .asr 1, .asr 2]) 100000 (by kernel_rfl) hs rfl ?_
  refine d_swap (α := SV × SV × SV × SV × SV × Bool) (fun (⟨x0, y0, s0, a0, b0, q0⟩ : SV × SV × SV × SV × SV × Bool) => { r := [x0, y0, s0, a0, b0], a := [lsA 25 2 idE (oneS x0) (idsOf A), lsA 4 1 boE (oneS y0) (livOf A), yA q0 (madeA A (oneS s0) (oneS a0) (oneS b0)) (noneA (oneS s0) (oneS a0) (oneS b0))] }) (fun (⟨x0, y0, s0, a0, b0, q0⟩ : SV × SV × SV × SV × SV × Bool) => True) (fun l h hs => let ⟨x0, y0, s0, a0, b0, q0, hq_, hs_⟩ := ax_open (hs) (l := l) (h := h); ⟨⟨x0, y0, s0, a0, b0, q0⟩, hq_, hs_⟩) fun ⟨x0, y0, s0, a0, b0, q0⟩ qs1 => ?_
  refine d_row { b := [q0] } True (fun l h hs => ax_isniln (l := l) (h := h) rfl (fun _ _ => by kernel_rfl) hs) fun _ => ?_
  refine d_if (fun (cd1 : q0 = true) => ?_) (fun (cd1 : ¬ (q0 = true)) => ?_)
  · refine d_swap (α := Unit) (fun (_ : Unit) => { a := [madeA A (oneS s0) (oneS a0) (oneS b0)] }) (fun (_ : Unit) => True) (fun l h hs => ⟨(), ⟨trivial, ya_t cd1 (hs) (l := l) (h := h)⟩⟩) fun _ qs2 => ?_
    refine d_swap (α := Unit) (fun (_ : Unit) => { a := [axR P A] }) (fun (_ : Unit) => True) (fun l h hs => ⟨(), ⟨trivial, axr_close (hs) (l := l) (h := h)⟩⟩) fun _ qs3 => ?_
    exact d_retZ fun h hs => ⟨qa2, qa6, hs⟩
  · refine d_swap (α := Unit) (fun (_ : Unit) => { a := [noneA (oneS s0) (oneS a0) (oneS b0)] }) (fun (_ : Unit) => True) (fun l h hs => ⟨(), ⟨trivial, ya_f cd1 (hs) (l := l) (h := h)⟩⟩) fun _ qs4 => ?_
    refine d_row { i := [((idsOf A).length : Int)] } True (fun l h hs => ls_len (m := l) (h := h) rfl (fun _ => rfl) hs) fun _ => ?_
    refine d_new fun bk1 => ?_
    refine d_row { i := [((idsOf A).length : Int)] } True (fun l h hs => ls_len (m := l) (h := h) rfl (fun _ => rfl) hs) fun _ => ?_
    refine d_eff (fun (v5 : SV) => { r := [v5], a := [lsA 3 1 inE (oneS v5) (List.replicate (Int.toNat ((idsOf A).length : Int)) (0 : Int))] }) (fun _ => True) (fun l h hs => ls_make (m := l) (h := h) (enc := inE) (x := (0 : Int)) (n := ((idsOf A).length : Int)) rfl inE_zero rfl rfl rfl qa0 qa0 (by decide) hs) fun v5 _ => ?_
    refine d_row { i := [((idsOf A).length : Int)] } True (fun l h hs => ls_len (m := l) (h := h) rfl (fun _ => rfl) hs) fun _ => ?_
    refine d_swap (α := Unit) (fun (_ : Unit) => { a := [mpA idK iiE bk1 []] }) (fun (_ : Unit) => True) (fun l h hs => ⟨(), ⟨trivial, mp_new (hs) (m := l) (h := h)⟩⟩) fun _ qs6 => ?_
    refine d_swap (α := Unit) (fun (_ : Unit) => { a := [lsA 25 2 idE (oneS b0) []] }) (fun (_ : Unit) => True) (fun l h hs => ⟨(), ⟨trivial, none_ls (hs) (l := l) (h := h)⟩⟩) fun _ qs7 => ?_
    exact d_stop (w2_l1 Γ P A h1 hL hM x0 y0 s0 a0 b0 q0 bk1 v5 _ _ 0 b0 ([]) (List.replicate (Int.toNat ((idsOf A).length : Int)) (0 : Int)) ([]) qa0 (Nat.lt_succ_self _)) rfl rfl
open Go Go.Proofs.YtdhmljjpiainnaaGreatDoor.Ev
set_option maxRecDepth 20000
set_option maxHeartbeats 4000000
abbrev zb0 : List MI := [.asr 10, .asr 7, .asr 8, .asr 5, .asr 6, .blk 2 [.raw 0, .raw 1, .raw 2, .raw 3, .raw 4] 204, .asr 4, .blk 1 [.ptr 2 0] 94]
abbrev zb1 : List MI := [.blk 0 [.raw 0, .raw 1, .raw 2, .raw 3, .raw 4] 204, .asr 2, .asr 3, .asr 4, .asr 5, .asr 6]
abbrev zb2 : List XV := [.raw 0, .raw 1, .lit (.map none), .lit (.slice none 0 0), .lit (.slice none 0 0)]
abbrev zb3 : List MI := [.blk 2 [.raw 0, .raw 1, .raw 2, .raw 3, .raw 4] 204, .asr 5, .asr 7, .asr 4]
abbrev zb4 : List (Nat × XV) := [(0, .yield 0), (4, .raw 6), (19, .raw 5), (20, I (.v 0)), (21, I (.v 1))]
abbrev zb5 : List (Nat × XV) := [(9, .fn 154 [] [.ptr 3 0]), (3, .ptr 2 0)]
abbrev zb6 : List XV := [.raw 0, .raw 1, .raw 2, .raw 3, .raw 4]
theorem qb0 {P : Prop} (h : P := by first | omega | (and_intros <;> intros <;> and_intros <;> first | omega | assumption | exact ids_len _ | exact liv_len _ | (simp at *; omega) | (simp_all; done) | (simp_all; omega))) : P := h
theorem qb1 {P : Prop} (h : P := by first | omega | (and_intros <;> intros <;> and_intros <;> first | omega | assumption | exact ids_len _ | exact liv_len _ | (have := spots_rng (by assumption); have := aheads_len A 0; omega) | (simp at *; omega) | (simp_all; done) | (simp_all; omega))) : P := h
theorem qb2 {P : Prop} (h : P := by first | trivial | omega | (and_intros <;> intros <;> and_intros <;> first | trivial | omega | assumption | (simp at *; omega) | (simp_all; done) | (simp_all; omega))) : P := h
theorem qb3 {P : Prop} (h : P := by first | omega | (and_intros <;> intros <;> and_intros <;> first | omega | assumption | exact ids_len _ | exact liv_len _ | (simp only [List.length_append, List.length_cons, List.length_nil]; omega) | exact clone_0 | exact clone_step hi.2.2 (by omega) | (simp at *; omega) | (simp_all; done) | (simp_all; omega))) : P := h
theorem qb4 {P : Prop} (h : P := by first | exact hs | (have e := kn0 (by assumption); subst e; exact hs)) : P := h
theorem qb5 {P : Prop} (h : P := by first | omega | (and_intros <;> intros <;> and_intros <;> first | omega | assumption | (simp at *; omega) | (simp_all; done) | (simp_all; omega))) : P := h
theorem qb6 {P : Prop} (h : P := by first | (simp only [placeOf]; simp_all; done)) : P := h
theorem qb7 {P : Prop} (h : P := by first | rfl | (show (.lit (.slice none 0 0) : SV) = _; simp_all)) : P := h
theorem qb8 {P : Prop} (h : P := by first | rfl | (show ((oneS v3) : SV) = _; simp_all)) : P := h
theorem qb9 {P : Prop} (h : P := by first | rfl | (show (.tuple [.agg [iV 0, iV 0], bV false] : SV) = _; simp_all)) : P := h
theorem qb10 {P : Prop} (h : P := by first | rfl | (show (.tuple [iV 0, bV false] : SV) = _; simp_all)) : P := h
theorem qb11 {P : Prop} (h : P := by first | rfl | rfl) : P := h
abbrev w3Q (_Γ : Glob) (v : SV) (L : List IdL) (l : List Asrt) (Zq : Hp) (vq : SV) (hq : Hp) : Prop := ∃ w : SV, (True) ∧ vq = (oneS w) ∧ St Zq (lsA 25 2 idE (oneS v) L :: lsA 25 2 idE (oneS w) L :: l) hq
theorem w3r (Γ : Glob) [Mute Γ] (v : SV) (L : List IdL) (h1 : (L.length : Int) ≤ 1000000) {Z0 h : Hp} {l : List Asrt} (hs : St Z0 (lsA 25 2 idE (oneS v) L :: l) h) : Runs Tryz.prog Γ (.call 97 [(oneS v)] h) fun oq => ∃ Z', Sub Z0 Z' ∧ w3Q Γ v L l Z' oq.v oq.hp := by
  refine sx_fnZ (Q := w3Q Γ v L l) Tryz.f97 Tryz.func97 (by kernel_rfl) [.raw 0] [.asr 0] ⟨0, 0, 0, 1, 0, 1⟩ (va { r := [v], a := [lsA 25 2 idE (oneS v) L] }) (.row (.bin .eql 43 (.raw 0) (.lit (.slice none 0 0))) [.asr 0] (.bool (.bv 0)) ⟨0, 0, 1, 1, 0, 1⟩ <| .fork (.bv 0) (.swap [] [.asr 1] ⟨0, 0, 1, 1, 0, 2⟩ <| .ret (.lit (.slice none 0 0)) [.asr 0, .asr 1]) <| .new <| .swap [.blk 0 [] 25] [.asr 1] ⟨0, 0, 1, 1, 1, 2⟩ <| .eff (.app [43, 43] (.slice 0 0 0 0) (.raw 0)) [.asr 1, .asr 0] (.raw 1) [.asr 2, .asr 3] ⟨0, 0, 1, 2, 1, 4⟩ <| .ret (.raw 1) [.asr 3, .asr 2]) 100000 (by kernel_rfl) hs rfl ?_
  refine d_row { b := [(isNilV (oneS v))] } (isNilV (oneS v) = true → L = []) (fun l h hs => ls_isnil (m := l) (h := h) rfl (fun _ _ => by kernel_rfl) hs) fun kn0 => ?_
  refine d_if (fun (cd1 : (isNilV (oneS v)) = true) => ?_) (fun (cd1 : ¬ ((isNilV (oneS v)) = true)) => ?_)
  · refine d_swap (α := Unit) (fun (_ : Unit) => { a := [lsA 25 2 idE (oneS (.lit (.slice none 0 0))) []] }) (fun (_ : Unit) => True) (fun l h hs => ⟨(), ⟨trivial, ls_nil (hs) (m := l) (h := h)⟩⟩) fun _ qs1 => ?_
    exact d_retZ fun h hs => ⟨(.lit (.slice none 0 0)), qb2, qb7, qb4⟩
  · refine d_new fun bk0 => ?_
    refine d_swap (α := Unit) (fun (_ : Unit) => { a := [lsA 25 2 idE (.slice bk0 0 0 0) []] }) (fun (_ : Unit) => True) (fun l h hs => ⟨(), ⟨trivial, ls_own (enc := idE) (L := []) (fun _ _ => ⟨rfl, rfl⟩) rfl rfl (by decide) (hs) (m := l) (h := h)⟩⟩) fun _ qs2 => ?_
    refine d_eff (fun (v3 : SV) => { r := [v3], a := [lsA 25 2 idE (oneS v3) L, lsA 25 2 idE (oneS v) L] }) (fun _ => True) (fun l h hs => ls_cat (m := l) (h := h) rfl idE_info (by decide) hs qb5 qb5) fun v3 _ => ?_
    exact d_retZ fun h hs => ⟨v3, qb2, qb8, qb4⟩
abbrev w4Q (_Γ : Glob) (v : SV) (L : List Bool) (l : List Asrt) (Zq : Hp) (vq : SV) (hq : Hp) : Prop := ∃ w : SV, (True) ∧ vq = (oneS w) ∧ St Zq (lsA 4 1 boE (oneS v) L :: lsA 4 1 boE (oneS w) L :: l) hq
theorem w4r (Γ : Glob) [Mute Γ] (v : SV) (L : List Bool) (h1 : (L.length : Int) ≤ 1000000) {Z0 h : Hp} {l : List Asrt} (hs : St Z0 (lsA 4 1 boE (oneS v) L :: l) h) : Runs Tryz.prog Γ (.call 155 [(oneS v)] h) fun oq => ∃ Z', Sub Z0 Z' ∧ w4Q Γ v L l Z' oq.v oq.hp := by
  refine sx_fnZ (Q := w4Q Γ v L l) Tryz.f155 Tryz.func155 (by kernel_rfl) [.raw 0] [.asr 0] ⟨0, 0, 0, 1, 0, 1⟩ (va { r := [v], a := [lsA 4 1 boE (oneS v) L] }) (.row (.bin .eql 199 (.raw 0) (.lit (.slice none 0 0))) [.asr 0] (.bool (.bv 0)) ⟨0, 0, 1, 1, 0, 1⟩ <| .fork (.bv 0) (.swap [] [.asr 1] ⟨0, 0, 1, 1, 0, 2⟩ <| .ret (.lit (.slice none 0 0)) [.asr 0, .asr 1]) <| .new <| .swap [.blk 0 [] 4] [.asr 1] ⟨0, 0, 1, 1, 1, 2⟩ <| .eff (.app [199, 199] (.slice 0 0 0 0) (.raw 0)) [.asr 1, .asr 0] (.raw 1) [.asr 2, .asr 3] ⟨0, 0, 1, 2, 1, 4⟩ <| .ret (.raw 1) [.asr 3, .asr 2]) 100000 (by kernel_rfl) hs rfl ?_
  refine d_row { b := [(isNilV (oneS v))] } (isNilV (oneS v) = true → L = []) (fun l h hs => ls_isnil (m := l) (h := h) rfl (fun _ _ => by kernel_rfl) hs) fun kn0 => ?_
  refine d_if (fun (cd1 : (isNilV (oneS v)) = true) => ?_) (fun (cd1 : ¬ ((isNilV (oneS v)) = true)) => ?_)
  · refine d_swap (α := Unit) (fun (_ : Unit) => { a := [lsA 4 1 boE (oneS (.lit (.slice none 0 0))) []] }) (fun (_ : Unit) => True) (fun l h hs => ⟨(), ⟨trivial, ls_nil (hs) (m := l) (h := h)⟩⟩) fun _ qs1 => ?_
    exact d_retZ fun h hs => ⟨(.lit (.slice none 0 0)), qb2, qb7, qb4⟩
  · refine d_new fun bk0 => ?_
    refine d_swap (α := Unit) (fun (_ : Unit) => { a := [lsA 4 1 boE (.slice bk0 0 0 0) []] }) (fun (_ : Unit) => True) (fun l h hs => ⟨(), ⟨trivial, ls_own (enc := boE) (L := []) (fun _ _ => ⟨rfl, rfl⟩) rfl rfl (by decide) (hs) (m := l) (h := h)⟩⟩) fun _ qs2 => ?_
    refine d_eff (fun (v3 : SV) => { r := [v3], a := [lsA 4 1 boE (oneS v3) L, lsA 4 1 boE (oneS v) L] }) (fun _ => True) (fun l h hs => ls_cat (m := l) (h := h) rfl boE_info (by decide) hs qb5 qb5) fun v3 _ => ?_
    exact d_retZ fun h hs => ⟨v3, qb2, qb8, qb4⟩
abbrev w5Q (_Γ : Glob) (P : Nat) (A : AX) (l : List Asrt) (Zq : Hp) (vq : SV) (hq : Hp) : Prop := (True) ∧ vq = iV ((alivesOf A).length : Int) ∧ St Zq (axR P A :: l) hq
theorem w5r (Γ : Glob) [Mute Γ] (P : Nat) (A : AX) (h1 : (idsOf A).Nodup ∧ (A.length : Int) ≤ 1000) (hL : ((idsOf A).length : Int) = A.length) (hM : ((livOf A).length : Int) = A.length) {Z0 h : Hp} {l : List Asrt} (hs : St Z0 (axA P A :: l) h) : Runs Tryz.prog Γ (.call 49 [.ptr P 0] h) fun oq => ∃ Z', Sub Z0 Z' ∧ w5Q Γ P A l Z' oq.v oq.hp := by
  refine sx_fnZ (Q := w5Q Γ P A l) Tryz.f49 Tryz.func49 (by kernel_rfl) [.ptr 0 0] [.asr 0] ⟨0, 0, 0, 0, 1, 1⟩ (va { n := [P], a := [axA P A] }) (.call 99 [.ptr 0 0] [.asr 0] (.tup []) [.asr 1] ⟨0, 0, 0, 0, 1, 2⟩ <| .swap [.asr 1] zb1 ⟨0, 0, 0, 5, 1, 7⟩ <| .row (.len 43 (.raw 4)) [.asr 6] (I (.v 0)) ⟨1, 0, 0, 5, 1, 7⟩ <| .swap zb1 [.asr 7] ⟨1, 0, 0, 5, 1, 8⟩ <| .ret (I (.v 0)) [.asr 7]) 100000 (by kernel_rfl) hs rfl ?_
  refine d_call (α := Unit) (fun (_ : Unit) => { a := [axR P A] }) (fun (_ : Unit) => True) (fun l h hs => (w2r (h := h) (l := l) Γ P A qb0 qb0 qb0 hs).mono fun _ ⟨Z1, z1, hq_, he_, hs_⟩ => ⟨Z1, z1, (), hq_, he_, hs_⟩) fun Z _ qd0 => ?_
  refine d_swap (α := SV × SV × SV × SV × SV) (fun (⟨x1, y1, s1, a1, b1⟩ : SV × SV × SV × SV × SV) => { r := [x1, y1, s1, a1, b1], a := [lsA 25 2 idE (oneS x1) (idsOf A), lsA 4 1 boE (oneS y1) (livOf A), mpS idK iiE (oneS s1) (spotsOf A), lsA 3 1 inE (oneS a1) (aheadsOf A 0), lsA 25 2 idE (oneS b1) (alivesOf A)] }) (fun (⟨x1, y1, s1, a1, b1⟩ : SV × SV × SV × SV × SV) => True) (fun l h hs => let ⟨x1, y1, s1, a1, b1, hq_, hs_⟩ := axr_open (hs) (l := l) (h := h); ⟨⟨x1, y1, s1, a1, b1⟩, hq_, hs_⟩) fun ⟨x1, y1, s1, a1, b1⟩ qs2 => ?_
  refine d_row { i := [((alivesOf A).length : Int)] } True (fun l h hs => ls_len (m := l) (h := h) rfl (fun _ => rfl) hs) fun _ => ?_
  refine d_swap (α := Unit) (fun (_ : Unit) => { a := [axR P A] }) (fun (_ : Unit) => True) (fun l h hs => ⟨(), ⟨trivial, axr_closeO (hs) (l := l) (h := h)⟩⟩) fun _ qs3 => ?_
  exact d_retZ fun h hs => ⟨qb2, by first | rfl | (show (iV ((alivesOf A).length : Int) : SV) = _; simp_all), hs⟩
abbrev w6Q (_Γ : Glob) (P : Nat) (k : Int) (A : AX) (l : List Asrt) (Zq : Hp) (vq : SV) (hq : Hp) : Prop := ∃ ra : Int, ∃ rn : Int, ∃ ok : Bool, ((ok = true → 0 ≤ k ∧ k < ((alivesOf A).length : Int) ∧ ra = (lget (alivesOf A) k).1 ∧ rn = (lget (alivesOf A) k).2) ∧ (ok = false → ra = 0 ∧ rn = 0 ∧ ¬ (0 ≤ k ∧ k < ((alivesOf A).length : Int)))) ∧ vq = .tuple [.agg [iV ra, iV rn], bV ok] ∧ St Zq (axA P A :: l) hq
theorem w6r (Γ : Glob) [Mute Γ] (P : Nat) (k : Int) (A : AX) (h1 : (idsOf A).Nodup ∧ (A.length : Int) ≤ 1000) (hL : ((idsOf A).length : Int) = A.length) (hM : ((livOf A).length : Int) = A.length) {Z0 h : Hp} {l : List Asrt} (hs : St Z0 (axA P A :: l) h) : Runs Tryz.prog Γ (.call 66 [.ptr P 0, iV k] h) fun oq => ∃ Z', Sub Z0 Z' ∧ w6Q Γ P k A l Z' oq.v oq.hp := by
  refine sx_fnZ (Q := w6Q Γ P k A l) Tryz.f66 Tryz.func66 (by kernel_rfl) [.ptr 0 0, I (.v 0)] [.asr 0] ⟨1, 0, 0, 0, 1, 1⟩ (va { i := [k], n := [P], a := [axA P A] }) (.new <| .fork (.lt (.v 0) (.z 0)) (.ret (.tup [.agg [I (.z 0), I (.z 0)], .bool (.bl false)]) [.asr 0]) <| .call 49 [.ptr 0 0] [.asr 0] (I (.v 1)) [.asr 1] ⟨2, 0, 0, 0, 2, 2⟩ <| .fork (.le (.v 1) (.v 0)) (.swap [.asr 1] [.asr 2] ⟨2, 0, 0, 0, 2, 3⟩ <| .ret (.tup [.agg [I (.z 0), I (.z 0)], .bool (.bl false)]) [.asr 2]) <| .swap [.asr 1] zb1 ⟨2, 0, 0, 5, 2, 7⟩ <| .row (.idxA 43 (.raw 4) (I (.v 0))) [.asr 6] (.raw 5) ⟨2, 0, 0, 6, 2, 7⟩ <| .row (.load 25 (.raw 5)) [.asr 6] (.agg [I (.v 2), I (.v 3)]) ⟨4, 0, 0, 6, 2, 7⟩ <| .swap zb1 [.asr 7] ⟨4, 0, 0, 6, 2, 8⟩ <| .ret (.tup [.agg [I (.v 2), I (.v 3)], .bool (.bl true)]) [.asr 7]) 100000 (by kernel_rfl) hs rfl ?_
  refine d_new fun bk1 => ?_
  refine d_if (fun (cd1 : k < 0) => ?_) (fun (cd1 : ¬ (k < 0)) => ?_)
  · exact d_retZ fun h hs => ⟨0, 0, false, qb2, qb9, hs⟩
  · refine d_call (α := Unit) (fun (_ : Unit) => { i := [((alivesOf A).length : Int)], a := [axR P A] }) (fun (_ : Unit) => True) (fun l h hs => (w5r (h := h) (l := l) Γ P A qb0 qb0 qb0 hs).mono fun _ ⟨Z1, z1, hq_, he_, hs_⟩ => ⟨Z1, z1, (), hq_, he_, hs_⟩) fun Z _ qd0 => ?_
    refine d_if (fun (cd2 : ((alivesOf A).length : Int) ≤ k) => ?_) (fun (cd2 : ¬ (((alivesOf A).length : Int) ≤ k)) => ?_)
    · refine d_swap (α := Unit) (fun (_ : Unit) => { a := [axA P A] }) (fun (_ : Unit) => True) (fun l h hs => ⟨(), ⟨trivial, ax_weak (hs) (l := l) (h := h)⟩⟩) fun _ qs1 => ?_
      exact d_retZ fun h hs => ⟨0, 0, false, qb2, qb9, hs⟩
    · refine d_swap (α := SV × SV × SV × SV × SV) (fun (⟨x2, y2, s2, a2, b2⟩ : SV × SV × SV × SV × SV) => { r := [x2, y2, s2, a2, b2], a := [lsA 25 2 idE (oneS x2) (idsOf A), lsA 4 1 boE (oneS y2) (livOf A), mpS idK iiE (oneS s2) (spotsOf A), lsA 3 1 inE (oneS a2) (aheadsOf A 0), lsA 25 2 idE (oneS b2) (alivesOf A)] }) (fun (⟨x2, y2, s2, a2, b2⟩ : SV × SV × SV × SV × SV) => True) (fun l h hs => let ⟨x2, y2, s2, a2, b2, hq_, hs_⟩ := axr_open (hs) (l := l) (h := h); ⟨⟨x2, y2, s2, a2, b2⟩, hq_, hs_⟩) fun ⟨x2, y2, s2, a2, b2⟩ qs3 => ?_
      refine d_row { r := [(elP (oneS b2) (Int.toNat k * 2))] } True (fun l h hs => ls_idx (m := l) (h := h) (i := k) rfl rfl hs qb0 qb0) fun _ => ?_
      refine d_row { i := [(((lget (alivesOf A) k)).1), (((lget (alivesOf A) k)).2)] } True (fun l h hs => ls_load (m := l) (h := h) (i := k) rfl rfl hs qb0 qb0) fun _ => ?_
      refine d_swap (α := Unit) (fun (_ : Unit) => { a := [axA P A] }) (fun (_ : Unit) => True) (fun l h hs => ⟨(), ⟨trivial, ax_closeO (hs) (l := l) (h := h)⟩⟩) fun _ qs4 => ?_
      exact d_retZ fun h hs => ⟨(((lget (alivesOf A) k)).1), (((lget (alivesOf A) k)).2), true, qb2, by first | rfl | (show (.tuple [.agg [iV (((lget (alivesOf A) k)).1), iV (((lget (alivesOf A) k)).2)], bV true] : SV) = _; simp_all), hs⟩
abbrev w7Q (_Γ : Glob) (P : Nat) (xa xn : Int) (A : AX) (l : List Asrt) (Zq : Hp) (vq : SV) (hq : Hp) : Prop := ∃ r : Int, ∃ ok : Bool, (ok = (placeOf A (xa, xn)).2 ∧ r = (placeOf A (xa, xn)).1) ∧ vq = .tuple [iV r, bV ok] ∧ St Zq (axR P A :: l) hq
theorem w7r (Γ : Glob) [Mute Γ] (P : Nat) (xa xn : Int) (A : AX) (h1 : (idsOf A).Nodup ∧ (A.length : Int) ≤ 1000) (hL : ((idsOf A).length : Int) = A.length) (hM : ((livOf A).length : Int) = A.length) {Z0 h : Hp} {l : List Asrt} (hs : St Z0 (axA P A :: l) h) : Runs Tryz.prog Γ (.call 101 [.ptr P 0, .agg [iV xa, iV xn]] h) fun oq => ∃ Z', Sub Z0 Z' ∧ w7Q Γ P xa xn A l Z' oq.v oq.hp := by
  refine sx_fnZ (Q := w7Q Γ P xa xn A l) Tryz.f101 Tryz.func101 (by kernel_rfl) [.ptr 0 0, .agg [I (.v 0), I (.v 1)]] [.asr 0] ⟨2, 0, 0, 0, 1, 1⟩ (va { i := [xa, xn], n := [P], a := [axA P A] }) (.new <| .call 99 [.ptr 0 0] [.asr 0] (.tup []) [.asr 1] ⟨2, 0, 0, 0, 2, 2⟩ <| .swap [.asr 1] zb1 ⟨2, 0, 0, 5, 2, 7⟩ <| .row (.look 202 (.raw 2) (.agg [I (.v 0), I (.v 1)]) true) [.asr 4] (.tup [I (.v 2), .bool (.bv 0)]) ⟨3, 0, 1, 5, 2, 7⟩ <| .fork (.bv 0) (.row (.idxA 199 (.raw 1) (I (.v 2))) [.asr 3] (.raw 5) ⟨3, 0, 1, 6, 2, 7⟩ <| .row (.load 4 (.raw 5)) [.asr 3] (.bool (.bv 1)) ⟨3, 0, 2, 6, 2, 7⟩ <| .fork (.bv 1) (.row (.idxA 121 (.raw 3) (I (.v 2))) [.asr 5] (.raw 6) ⟨3, 0, 2, 7, 2, 7⟩ <| .row (.load 3 (.raw 6)) [.asr 5] (I (.v 3)) ⟨4, 0, 2, 7, 2, 7⟩ <| .swap zb1 [.asr 7] ⟨4, 0, 2, 7, 2, 8⟩ <| .ret (.tup [I (.v 3), .bool (.bl true)]) [.asr 7]) <| .swap zb1 [.asr 7] ⟨3, 0, 2, 6, 2, 8⟩ <| .ret (.tup [I (.z 0), .bool (.bl false)]) [.asr 7]) <| .swap zb1 [.asr 7] ⟨3, 0, 1, 5, 2, 8⟩ <| .ret (.tup [I (.z 0), .bool (.bl false)]) [.asr 7]) 100000 (by kernel_rfl) hs rfl ?_
  refine d_new fun bk1 => ?_
  refine d_call (α := Unit) (fun (_ : Unit) => { a := [axR P A] }) (fun (_ : Unit) => True) (fun l h hs => (w2r (h := h) (l := l) Γ P A qb1 qb1 qb1 hs).mono fun _ ⟨Z1, z1, hq_, he_, hs_⟩ => ⟨Z1, z1, (), hq_, he_, hs_⟩) fun Z _ qd0 => ?_
  refine d_swap (α := SV × SV × SV × SV × SV) (fun (⟨x1, y1, s1, a1, b1⟩ : SV × SV × SV × SV × SV) => { r := [x1, y1, s1, a1, b1], a := [lsA 25 2 idE (oneS x1) (idsOf A), lsA 4 1 boE (oneS y1) (livOf A), mpS idK iiE (oneS s1) (spotsOf A), lsA 3 1 inE (oneS a1) (aheadsOf A 0), lsA 25 2 idE (oneS b1) (alivesOf A)] }) (fun (⟨x1, y1, s1, a1, b1⟩ : SV × SV × SV × SV × SV) => True) (fun l h hs => let ⟨x1, y1, s1, a1, b1, hq_, hs_⟩ := axr_open (hs) (l := l) (h := h); ⟨⟨x1, y1, s1, a1, b1⟩, hq_, hs_⟩) fun ⟨x1, y1, s1, a1, b1⟩ qs2 => ?_
  refine d_row { i := [(mget (spotsOf A) (xa, xn))], b := [(mhas (spotsOf A) (xa, xn))] } True (fun l h hs => mps_get2 (m := l) (h := h) (kc := idK) (ve := iiE) (L := (spotsOf A)) (k := (xa, xn)) rfl idK_key rfl rfl hs) fun _ => ?_
  refine d_if (fun (cd1 : (mhas (spotsOf A) (xa, xn)) = true) => ?_) (fun (cd1 : ¬ ((mhas (spotsOf A) (xa, xn)) = true)) => ?_)
  · refine d_row { r := [(elP (oneS y1) (Int.toNat (mget (spotsOf A) (xa, xn)) * 1))] } True (fun l h hs => ls_idx (m := l) (h := h) (i := (mget (spotsOf A) (xa, xn))) rfl rfl hs qb1 qb1) fun _ => ?_
    refine d_row { b := [(lget (livOf A) (mget (spotsOf A) (xa, xn)))] } True (fun l h hs => ls_load1 (m := l) (h := h) (i := (mget (spotsOf A) (xa, xn))) rfl rfl hs qb1 qb1 rfl) fun _ => ?_
    refine d_if (fun (cd2 : (lget (livOf A) (mget (spotsOf A) (xa, xn))) = true) => ?_) (fun (cd2 : ¬ ((lget (livOf A) (mget (spotsOf A) (xa, xn))) = true)) => ?_)
    · refine d_row { r := [(elP (oneS a1) (Int.toNat (mget (spotsOf A) (xa, xn)) * 1))] } True (fun l h hs => ls_idx (m := l) (h := h) (i := (mget (spotsOf A) (xa, xn))) rfl rfl hs qb1 qb1) fun _ => ?_
      refine d_row { i := [(lget (aheadsOf A 0) (mget (spotsOf A) (xa, xn)))] } True (fun l h hs => ls_load1 (m := l) (h := h) (i := (mget (spotsOf A) (xa, xn))) rfl rfl hs qb1 qb1 rfl) fun _ => ?_
      refine d_swap (α := Unit) (fun (_ : Unit) => { a := [axR P A] }) (fun (_ : Unit) => True) (fun l h hs => ⟨(), ⟨trivial, axr_closeO (hs) (l := l) (h := h)⟩⟩) fun _ qs3 => ?_
      exact d_retZ fun h hs => ⟨(lget (aheadsOf A 0) (mget (spotsOf A) (xa, xn))), true, qb6, by first | rfl | (show (.tuple [iV (lget (aheadsOf A 0) (mget (spotsOf A) (xa, xn))), bV true] : SV) = _; simp_all), hs⟩
    · refine d_swap (α := Unit) (fun (_ : Unit) => { a := [axR P A] }) (fun (_ : Unit) => True) (fun l h hs => ⟨(), ⟨trivial, axr_closeO (hs) (l := l) (h := h)⟩⟩) fun _ qs4 => ?_
      exact d_retZ fun h hs => ⟨0, false, qb6, qb10, hs⟩
  · refine d_swap (α := Unit) (fun (_ : Unit) => { a := [axR P A] }) (fun (_ : Unit) => True) (fun l h hs => ⟨(), ⟨trivial, axr_closeO (hs) (l := l) (h := h)⟩⟩) fun _ qs5 => ?_
    exact d_retZ fun h hs => ⟨0, false, qb6, qb10, hs⟩
theorem w8_l1 (Γ : Glob) [Mute Γ] (C P : Nat) (A : AX) (h1 : (idsOf A).Nodup ∧ (A.length : Int) ≤ 1000) (hL : ((idsOf A).length : Int) = A.length) (hM : ((livOf A).length : Int) = A.length) {Z0 : Hp} {B : Nat} {J0 : Asrt} {J : Nat → Asrt} {Q : Asrt} (_h0 : ∀ Z l h, St Z ([] ++ J0 :: l) h → St Z (J 0 :: l) h) (hr : Rounds Tryz.prog Γ B (A.length) (fun k : Nat => [.agg [iV ((lget (idsOf A) (k : Int)).1), iV ((lget (idsOf A) (k : Int)).2)], bV (lget (livOf A) (k : Int))]) (fun _k : Nat => []) J Q) (x0 y0 : SV) (s0 a0 b0 : SV) (q0 : Bool) (w2 w3 : SV) {l : List Asrt} : ∀ (m : Nat) (Z : Hp) (i : Int) (_hi : 0 ≤ i ∧ i ≤ (A.length : Int)) (_hm : ((A.length : Int) - i).toNat < m), den (fnC Tryz.prog Γ Tryz.f154 2 [] (subA Z0 :: l) (PostZ Z0 (fun Z _ h => St Z ([own C (.cells [.ptr P 0] 94), axA P A] ++ J (A.length) :: l) h ∨ St Z ([own C (.cells [.ptr P 0] 94), axA P A] ++ Q :: l) h))) (.stop [0, 1, 1, 1] zb4 zb0) ⟨2, 0, 0, 7, 3, 11⟩ (va { i := [((idsOf A).length : Int), i], r := [x0, y0, s0, a0, b0, w2, w3], n := [B, C, P], a := [axA P A, J0, lsA 25 2 idE (oneS x0) (idsOf A), lsA 4 1 boE (oneS y0) (livOf A), yA q0 (madeA A (oneS s0) (oneS a0) (oneS b0)) (noneA (oneS s0) (oneS a0) (oneS b0)), lsA 25 2 idE (oneS x0) (idsOf A), lsA 25 2 idE (oneS w2) (idsOf A), lsA 4 1 boE (oneS y0) (livOf A), lsA 4 1 boE (oneS w3) (livOf A), jz J 0, jz J i] }) Z := by
  intro m
  induction m with
  | zero => intros; omega
  | succ m ih =>
    intro Z i hi hm
    refine sx_loop [0, 1, 1, 1] zb4 zb0 [] ⟨2, 0, 0, 7, 3, 11⟩ (.fork (.lt (.v 1) (.v 0)) (.row (.idxA 43 (.raw 5) (I (.v 1))) [.asr 6] (.raw 7) ⟨2, 0, 0, 8, 3, 11⟩ <| .row (.load 25 (.raw 7)) [.asr 6] (.agg [I (.v 2), I (.v 3)]) ⟨4, 0, 0, 8, 3, 11⟩ <| .new <| .row (.idxA 199 (.raw 6) (I (.v 1))) [.asr 8] (.raw 8) ⟨4, 0, 0, 9, 4, 11⟩ <| .row (.load 4 (.raw 8)) [.asr 8] (.bool (.bv 0)) ⟨4, 0, 1, 9, 4, 11⟩ <| .round 0 [.agg [I (.v 2), I (.v 3)], .bool (.bv 0)] [.asr 10] (.bool (.bv 1)) [.asr 11] ⟨4, 0, 2, 9, 4, 12⟩ <| .fork (.bv 1) (.swap [.asr 11] [.asr 12] ⟨4, 0, 2, 9, 4, 13⟩ <| .vc (xI (.add (.v 1) (.z 1))) <| .stop [0, 1, 1, 1] [(0, .yield 0), (4, .raw 6), (19, .raw 5), (20, I (.v 0)), (21, I (.add (.v 1) (.z 1)))] [.asr 12, .asr 7, .asr 8, .asr 5, .asr 6, .blk 2 zb6 204, .asr 4, .blk 1 [.ptr 2 0] 94]) <| .swap [.asr 11] [.asr 12] ⟨4, 0, 2, 9, 4, 13⟩ <| .swap zb3 [.asr 13] ⟨4, 0, 2, 9, 4, 14⟩ <| .ret (.tup []) [.blk 1 [.ptr 2 0] 94, .asr 13, .asr 12]) <| .swap zb3 [.asr 11] ⟨2, 0, 0, 7, 3, 12⟩ <| .ret (.tup []) [.blk 1 [.ptr 2 0] 94, .asr 11, .asr 10]) 100000 (by kernel_rfl) (fun _ h => by cases h) ?_
    refine d_if (fun (cd1 : i < ((idsOf A).length : Int)) => ?_) (fun (cd1 : ¬ (i < ((idsOf A).length : Int))) => ?_)
    · refine d_row { r := [(elP (oneS w2) (Int.toNat i * 2))] } True (fun l h hs => ls_idx (m := l) (h := h) (i := i) rfl rfl hs qb0 qb0) fun _ => ?_
      refine d_row { i := [(((lget (idsOf A) i)).1), (((lget (idsOf A) i)).2)] } True (fun l h hs => ls_load (m := l) (h := h) (i := i) rfl rfl hs qb0 qb0) fun _ => ?_
      refine d_new fun bk3 => ?_
      refine d_row { r := [(elP (oneS w3) (Int.toNat i * 1))] } True (fun l h hs => ls_idx (m := l) (h := h) (i := i) rfl rfl hs qb0 qb0) fun _ => ?_
      refine d_row { b := [(lget (livOf A) i)] } True (fun l h hs => ls_load1 (m := l) (h := h) (i := i) rfl rfl hs qb0 qb0 rfl) fun _ => ?_
      refine d_round (fun (v100 : Bool) => { b := [v100], a := [yA v100 (jz J (i + 1)) Q] }) (fun _ => True) (fun l h hs => round_use hr (x := i) qb0 qb0 (by have e0 := Int.toNat_of_nonneg (show (0 : Int) ≤ i from qb0); first | (simp only [e0]; done) | (simp only [e0]; rfl)) (by first | rfl | simp only [Int.toNat_of_nonneg (show (0 : Int) ≤ i from by first | omega | (and_intros <;> intros <;> and_intros <;> first | omega | assumption | exact ids_len _ | exact liv_len _ | (simp at *; omega) | (simp_all; done) | (simp_all; omega)))]) hs) fun Z v100 _ => ?_
      refine d_if (fun (cd2 : v100 = true) => ?_) (fun (cd2 : ¬ (v100 = true)) => ?_)
      · refine d_swap (α := Unit) (fun (_ : Unit) => { a := [jz J (i + 1)] }) (fun (_ : Unit) => True) (fun l h hs => ⟨(), ⟨trivial, ya_t cd2 (hs) (l := l) (h := h)⟩⟩) fun _ qs101 => ?_
        refine d_vc (show I6 (i + 1) from qb0) ?_
        exact d_stop (ih _ (i + 1) qb0 qb0) rfl rfl
      · refine d_swap (α := Unit) (fun (_ : Unit) => { a := [Q] }) (fun (_ : Unit) => True) (fun l h hs => ⟨(), ⟨trivial, ya_f cd2 (hs) (l := l) (h := h)⟩⟩) fun _ qs102 => ?_
        refine d_swap (α := Unit) (fun (_ : Unit) => { a := [axA P A] }) (fun (_ : Unit) => True) (fun l h hs => ⟨(), ⟨trivial, ax_close (hs) (l := l) (h := h)⟩⟩) fun _ qs103 => ?_
        exact d_retZ fun h hs => .inr hs
    · refine d_swap (α := Unit) (fun (_ : Unit) => { a := [axA P A] }) (fun (_ : Unit) => True) (fun l h hs => ⟨(), ⟨trivial, ax_close (hs) (l := l) (h := h)⟩⟩) fun _ qs104 => ?_
      exact d_retZ fun h hs => .inl (jz_end (la := [own C (.cells [.ptr P 0] 94), axA P A]) qb0 hs)
theorem w8s (Γ : Glob) [Mute Γ] (C P : Nat) (A : AX) (h1 : (idsOf A).Nodup ∧ (A.length : Int) ≤ 1000) (hL : ((idsOf A).length : Int) = A.length) (hM : ((livOf A).length : Int) = A.length) : SeqP Tryz.prog Γ 154 [] [.ptr C 0] (A.length) (fun k : Nat => [.agg [iV ((lget (idsOf A) (k : Int)).1), iV ((lget (idsOf A) (k : Int)).2)], bV (lget (livOf A) (k : Int))]) (fun _k : Nat => []) [own C (.cells [.ptr P 0] 94), axA P A] [] := by
  intro Z B J0 J Q l h h0 hr hs
  refine sx_fnZ (Q := fun Z _ h => St Z ([own C (.cells [.ptr P 0] 94), axA P A] ++ J (A.length) :: l) h ∨ St Z ([own C (.cells [.ptr P 0] 94), axA P A] ++ Q :: l) h) Tryz.f154 Tryz.func154 (by kernel_rfl) [.yield 0, .ptr 1 0] [.blk 1 [.ptr 2 0] 94, .asr 0, .asr 1] ⟨0, 0, 0, 0, 3, 2⟩ (va { n := [B, C, P], a := [axA P A, J0] }) (.swap [.asr 0] [.blk 2 zb6 204, .asr 2, .asr 3, .asr 4] ⟨0, 0, 0, 5, 3, 5⟩ <| .call 97 [.raw 0] [.asr 2] (.raw 5) [.asr 5, .asr 6] ⟨0, 0, 0, 6, 3, 7⟩ <| .call 155 [.raw 1] [.asr 3] (.raw 6) [.asr 7, .asr 8] ⟨0, 0, 0, 7, 3, 9⟩ <| .row (.len 43 (.raw 5)) [.asr 6] (I (.v 0)) ⟨1, 0, 0, 7, 3, 9⟩ <| .swap [.asr 1] [.asr 9] ⟨1, 0, 0, 7, 3, 10⟩ <| .stop [0, 1, 1, 1] [(0, .yield 0), (4, .raw 6), (19, .raw 5), (20, I (.v 0)), (21, I (.z 0))] [.asr 9, .asr 7, .asr 8, .asr 5, .asr 6, .blk 2 zb6 204, .asr 4, .blk 1 [.ptr 2 0] 94]) 100000 (by kernel_rfl) hs rfl ?_
  refine d_swap (α := SV × SV × SV × SV × SV × Bool) (fun (⟨x0, y0, s0, a0, b0, q0⟩ : SV × SV × SV × SV × SV × Bool) => { r := [x0, y0, s0, a0, b0], a := [lsA 25 2 idE (oneS x0) (idsOf A), lsA 4 1 boE (oneS y0) (livOf A), yA q0 (madeA A (oneS s0) (oneS a0) (oneS b0)) (noneA (oneS s0) (oneS a0) (oneS b0))] }) (fun (⟨x0, y0, s0, a0, b0, q0⟩ : SV × SV × SV × SV × SV × Bool) => True) (fun l h hs => let ⟨x0, y0, s0, a0, b0, q0, hq_, hs_⟩ := ax_open (hs) (l := l) (h := h); ⟨⟨x0, y0, s0, a0, b0, q0⟩, hq_, hs_⟩) fun ⟨x0, y0, s0, a0, b0, q0⟩ qs1 => ?_
  refine d_call (α := SV) (fun (w2 : SV) => { r := [w2], a := [lsA 25 2 idE (oneS x0) (idsOf A), lsA 25 2 idE (oneS w2) (idsOf A)] }) (fun (w2 : SV) => True) (fun l h hs => w3r (h := h) (l := l) Γ x0 (idsOf A) qb0 hs) fun Z w2 qd2 => ?_
  refine d_call (α := SV) (fun (w3 : SV) => { r := [w3], a := [lsA 4 1 boE (oneS y0) (livOf A), lsA 4 1 boE (oneS w3) (livOf A)] }) (fun (w3 : SV) => True) (fun l h hs => w4r (h := h) (l := l) Γ y0 (livOf A) qb0 hs) fun Z w3 qd3 => ?_
  refine d_row { i := [((idsOf A).length : Int)] } True (fun l h hs => ls_len (m := l) (h := h) rfl (fun _ => rfl) hs) fun _ => ?_
  refine d_swap (α := Unit) (fun (_ : Unit) => { a := [jz J 0] }) (fun (_ : Unit) => True) (fun l h hs => ⟨(), ⟨trivial, h0 _ _ _ hs⟩⟩) fun _ qs4 => ?_
  exact d_stop (w8_l1 Γ C P A h1 hL hM h0 hr x0 y0 s0 a0 b0 q0 w2 w3 _ _ 0 qb0 (Nat.lt_succ_self _)) rfl rfl
abbrev w9Q (_Γ : Glob) (P : Nat) (l : List Asrt) (Zq : Hp) (vq : SV) (hq : Hp) : Prop := ∃ C : Nat, (True) ∧ vq = .func (.func 154) [] [.ptr C 0] ∧ St Zq (own C (.cells [.ptr P 0] 94) :: l) hq
theorem w9r (Γ : Glob) [Mute Γ] (P : Nat)  {Z0 h : Hp} {l : List Asrt} (hs : St Z0 (l) h) : Runs Tryz.prog Γ (.call 75 [.ptr P 0] h) fun oq => ∃ Z', Sub Z0 Z' ∧ w9Q Γ P l Z' oq.v oq.hp := by
  refine sx_fnZ (Γ := Γ) (Q := w9Q Γ P l) Tryz.f75 Tryz.func75 (by kernel_rfl) [.ptr 0 0] [] ⟨0, 0, 0, 0, 1, 0⟩ (va { n := [P] }) (.new <| .ret (.fn 154 [] [.ptr 1 0]) [.blk 1 [.ptr 0 0] 94]) 100000 (by kernel_rfl) hs rfl ?_
  refine d_new fun bk1 => ?_
  exact d_retZ fun h hs => ⟨bk1, qb2, by first | rfl | (show (.func (.func 154) [] [.ptr bk1 0] : SV) = _; simp_all), hs⟩
structure CloneI (A : AX) (k : Nat) (X : List IdL) (Y : List Bool) : Prop where
  a : X = (idsOf A).take k
  b : Y = (livOf A).take k
  c : X.length = k
  d : Y.length = k
theorem clone_0 {A : AX} : CloneI A 0 [] [] := ⟨rfl, rfl, rfl, rfl⟩
theorem clone_step {A : AX} {k : Nat} {X : List IdL} {Y : List Bool} (w : CloneI A k X Y) (h : k < A.length) : CloneI A (k + 1) (X ++ [((lget (idsOf A) (k : Int)).1, (lget (idsOf A) (k : Int)).2)]) (Y ++ [lget (livOf A) (k : Int)]) := by
  obtain ⟨a, b, c, d⟩ := w
  have h1 := take_snoc (L := idsOf A) (i := k) (by omega) (by simp [idsOf]; omega)
  have h2 := take_snoc (L := livOf A) (i := k) (by omega) (by simp [livOf]; omega)
  rw [show ((k : Int) + 1).toNat = k + 1 by omega, Int.toNat_natCast] at h1 h2
  exact ⟨by rw [h1, a], by rw [h2, b], by simp [c], by simp [d]⟩
theorem clone_end {A : AX} {X : List IdL} {Y : List Bool} (w : CloneI A A.length X Y) : X.zip Y = A := by
  obtain ⟨a, b, c, d⟩ := w
  rw [a, b, List.take_of_length_le (by simp [idsOf]), List.take_of_length_le (by simp [livOf])]
  clear a b c d
  induction A with
  | nil => rfl
  | cons x l ih => simp only [idsOf, livOf, List.map_cons, List.zip_cons_cons]; exact congrArg _ ih
abbrev w10Q (_Γ : Glob) (P : Nat) (A : AX) (l : List Asrt) (Zq : Hp) (vq : SV) (hq : Hp) : Prop := ∃ R : Nat, (True) ∧ vq = .ptr R 0 ∧ St Zq (axA P A :: axA R A :: l) hq
noncomputable abbrev w10C (Γ : Glob) (P : Nat) (A : AX) (Z0 : Hp) (l : List Asrt) : Cx := fnC Tryz.prog Γ Tryz.f93 1 [] (subA Z0 :: l) (PostZ Z0 (w10Q Γ P A l))
theorem w10_r1 (Γ : Glob) [Mute Γ] (P : Nat) (A : AX) (h1 : (idsOf A).Nodup ∧ (A.length : Int) ≤ 1000) (hL : ((idsOf A).length : Int) = A.length) (hM : ((livOf A).length : Int) = A.length) (bk1 bk2 C0 : Nat) {Z0 Z : Hp} {l : List Asrt} (x y : SV) (X : List IdL) (Y : List Bool) (hi : X.length = 0 ∧ Y.length = 0 ∧ CloneI A 0 X Y) : den (w10C Γ P A Z0 l) (.stop [0, 1, 0, 1, 1] zb5 [.blk 3 [.ptr 0 0] 94, .asr 0, .asr 4, .asr 3, .blk 2 [.ptr 1 0] 94, .blk 1 zb2 204]) ⟨0, 0, 0, 2, 4, 5⟩ (va { r := [x, y], n := [P, bk1, bk2, C0], a := [axA P A, lsA 25 2 idE (oneS (.lit (.slice none 0 0))) [], lsA 4 1 boE (oneS (.lit (.slice none 0 0))) [], lsA 25 2 idE (oneS x) X, lsA 4 1 boE (oneS y) Y] }) Z := by
  haveI : Mute (w10C Γ P A Z0 l).Γ := (inferInstance : Mute Γ)
  refine gx_rangeP (β := Unit) (p := [0, 1, 0, 1, 1]) (la := [own C0 (.cells [.ptr P 0] 94), axA P A]) (lb := []) rfl (by kernel_rfl) 9 (.fn 154 [] [.ptr 3 0]) (by kernel_rfl) rfl (w8s Γ C0 P A qb3 qb3 qb3) [lsA 4 1 boE (oneS y) Y, lsA 25 2 idE (oneS x) X, own bk2 (.cells [.ptr bk1 0] 94), own bk1 (.cells [(oneS x), (oneS y), .lit (.map none), .lit (.slice none 0 0), .lit (.slice none 0 0)] 204)] (fun (⟨x, y, X, Y⟩ : SV × SV × List IdL × List Bool) => [lsA 4 1 boE (oneS y) Y, lsA 25 2 idE (oneS x) X, own bk2 (.cells [.ptr bk1 0] 94), own bk1 (.cells [(oneS x), (oneS y), .lit (.map none), .lit (.slice none 0 0), .lit (.slice none 0 0)] 204)]) (fun (k : Nat) (⟨x, y, X, Y⟩ : SV × SV × List IdL × List Bool) => X.length = k ∧ Y.length = k ∧ CloneI A k X Y) .ret rfl (fun _ => []) (fun _ => False) (fun _ _ s => s) (fun _ _ _ s => ⟨(x, y, X, Y), hi, s⟩) ?_ ?_ (fun _ _ h => h.elim)
  · intro k hk ⟨x, y, X, Y⟩ hi Z B l tm hs
    refine gx_round (fr := zb5) (c := ⟨2, 0, 1, 2, 4, 5⟩) (ρ := va { i := [((lget (idsOf A) (k : Int)).1), ((lget (idsOf A) (k : Int)).2)], b := [(lget (livOf A) (k : Int))], r := [x, y], n := [P, bk1, bk2, C0], a := [axA P A, lsA 25 2 idE (oneS (.lit (.slice none 0 0))) [], lsA 4 1 boE (oneS (.lit (.slice none 0 0))) [], lsA 25 2 idE (oneS x) X, lsA 4 1 boE (oneS y) Y] }) [.agg [I (.v 0), I (.v 1)], .bool (.bv 0)] (mem := [.asr 4, .asr 3, .blk 2 [.ptr 1 0] 94, .blk 1 zb2 204]) (win := []) (N := 100000) (ta := .new <| .fin .normal [(3, .ptr 2 0), (4, .ptr 4 0), (5, .bool (.bv 0))] [.blk 4 [I (.v 0), I (.v 1)] 25, .asr 4, .asr 3, .blk 2 [.ptr 1 0] 94, .blk 1 zb2 204]) (by kernel_rfl) (fun _ h => by cases h) rfl (by kernel_rfl) (by kernel_rfl) (by rfl) hs rfl ?_
    refine d_new fun bk4 => ?_
    refine d_asg (win := []) (tb := .new <| .eff (.app [43, 43] (.raw 0) (.slice 5 0 1 1)) [.asr 3, .blk 5 [I (.v 0), I (.v 1)] 25] (.raw 2) [.asr 5] ⟨2, 0, 1, 3, 6, 6⟩ <| .new <| .eff (.app [199, 199] (.raw 1) (.slice 6 0 1 1)) [.asr 4, .blk 6 [.bool (.bv 0)] 4] (.raw 3) [.asr 6] ⟨2, 0, 1, 4, 7, 7⟩ <| .fin .normal [] [.asr 6, .asr 5, .blk 2 [.ptr 1 0] 94, .blk 1 [.raw 2, .raw 3, .lit (.map none), .lit (.slice none 0 0), .lit (.slice none 0 0)] 204]) (N := 100000) (by kernel_rfl) (fun _ h => by cases h) fun l => ?_
    refine d_new fun bk5 => ?_
    refine d_eff (fun (v0 : SV) => { r := [v0], a := [lsA 25 2 idE (oneS v0) (X ++ [(((lget (idsOf A) (k : Int)).1), ((lget (idsOf A) (k : Int)).2))])] }) (fun _ => True) (fun l h hs => ls_push (m := l) (h := h) rfl idE_info (by decide) hs qb11 rfl rfl qb3) fun v0 _ => ?_
    refine d_new fun bk6 => ?_
    refine d_eff (fun (v1 : SV) => { r := [v1], a := [lsA 4 1 boE (oneS v1) (Y ++ [(lget (livOf A) (k : Int))])] }) (fun _ => True) (fun l h hs => ls_push (m := l) (h := h) rfl boE_info (by decide) hs qb11 rfl rfl qb3) fun v1 _ => ?_
    exact d_next (v0, v1, (X ++ [(((lget (idsOf A) (k : Int)).1), ((lget (idsOf A) (k : Int)).2))]), (Y ++ [(lget (livOf A) (k : Int))])) qb3 rfl
  · intro Z ⟨x, y, X, Y⟩ hi dm4
    refine goOnP (C := w10C Γ P A Z0 l) fnC_root (N := 100000) (fr' := zb5) (mem := [.obj 4 (.deferred true), .blk 3 [.ptr 0 0] 94, .asr 0, .asr 4, .asr 3, .blk 2 [.ptr 1 0] 94, .blk 1 zb2 204]) (win := []) (c := ⟨0, 0, 0, 2, 5, 5⟩) (mks := [4]) (t := .swap [.blk 1 zb2 204, .asr 3, .asr 4] [.asr 5] ⟨0, 0, 0, 2, 5, 6⟩ <| .ret (.ptr 1 0) [.asr 0, .asr 5]) (va { r := [x, y], n := [P, bk1, bk2, C0, dm4], a := [axA P A, lsA 25 2 idE (oneS (.lit (.slice none 0 0))) [], lsA 4 1 boE (oneS (.lit (.slice none 0 0))) [], lsA 25 2 idE (oneS x) X, lsA 4 1 boE (oneS y) Y] }) (by kernel_rfl) rfl rfl rfl (fun _ h => by cases h) ?_
    show den (fnC Tryz.prog Γ Tryz.f93 1 [dm4] (subA Z0 :: l) (PostZ Z0 (w10Q Γ P A l))) _ _ _ _
    refine d_swap (α := Unit) (fun (_ : Unit) => { a := [axA bk1 (List.zip X Y)] }) (fun (_ : Unit) => True) (fun l h hs => ⟨(), ⟨trivial, ax_nonez qb3 (hs) (l := l) (h := h)⟩⟩) fun _ qs50 => ?_
    exact d_retZ fun h hs => ⟨bk1, qb2, by first | rfl | (show (.ptr bk1 0 : SV) = _; simp_all), by first | exact hs | (rw [clone_end hi.2.2] at hs; exact hs)⟩
theorem w10r (Γ : Glob) [Mute Γ] (P : Nat) (A : AX) (h1 : (idsOf A).Nodup ∧ (A.length : Int) ≤ 1000) (hL : ((idsOf A).length : Int) = A.length) (hM : ((livOf A).length : Int) = A.length) {Z0 h : Hp} {l : List Asrt} (hs : St Z0 (axA P A :: l) h) : Runs Tryz.prog Γ (.call 93 [.ptr P 0] h) fun oq => ∃ Z', Sub Z0 Z' ∧ w10Q Γ P A l Z' oq.v oq.hp := by
  refine sx_fnZ (Q := w10Q Γ P A l) Tryz.f93 Tryz.func93 (by kernel_rfl) [.ptr 0 0] [.asr 0] ⟨0, 0, 0, 0, 1, 1⟩ (va { n := [P], a := [axA P A] }) (.new <| .new <| .call 75 [.ptr 0 0] [] (.fn 154 [] [.ptr 3 0]) [.blk 3 [.ptr 0 0] 94] ⟨0, 0, 0, 0, 4, 1⟩ <| .swap [] [.asr 1] ⟨0, 0, 0, 0, 4, 2⟩ <| .swap [] [.asr 2] ⟨0, 0, 0, 0, 4, 3⟩ <| .stop [0, 1, 0, 1, 1] zb5 [.blk 3 [.ptr 0 0] 94, .asr 0, .asr 2, .asr 1, .blk 2 [.ptr 1 0] 94, .blk 1 [.lit (.slice none 0 0), .lit (.slice none 0 0), .lit (.map none), .lit (.slice none 0 0), .lit (.slice none 0 0)] 204]) 100000 (by kernel_rfl) hs rfl ?_
  refine d_new fun bk1 => ?_
  refine d_new fun bk2 => ?_
  refine d_call (α := Nat) (fun (C0 : Nat) => { n := [C0] }) (fun (C0 : Nat) => True) (fun l h hs => w9r (h := h) (l := l) Γ P  hs) fun Z C0 qd0 => ?_
  refine d_swap (α := Unit) (fun (_ : Unit) => { a := [lsA 25 2 idE (oneS (.lit (.slice none 0 0))) []] }) (fun (_ : Unit) => True) (fun l h hs => ⟨(), ⟨trivial, ls_nil (hs) (m := l) (h := h)⟩⟩) fun _ qs1 => ?_
  refine d_swap (α := Unit) (fun (_ : Unit) => { a := [lsA 4 1 boE (oneS (.lit (.slice none 0 0))) []] }) (fun (_ : Unit) => True) (fun l h hs => ⟨(), ⟨trivial, ls_nil (hs) (m := l) (h := h)⟩⟩) fun _ qs2 => ?_
  exact d_stop (w10_r1 Γ P A h1 hL hM bk1 bk2 C0 (.lit (.slice none 0 0)) (.lit (.slice none 0 0)) ([]) ([]) qb3) rfl rfl
end Go.Proofs.YtdhmljjpiainnaaGreatDoor.Sx
