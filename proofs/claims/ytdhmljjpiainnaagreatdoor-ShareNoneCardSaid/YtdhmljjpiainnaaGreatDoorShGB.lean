/-
  SHEETS, by certificate; by the author of this claim. | THE DOCUMENT: sheets, by certificate; by the author of this claim.
-/
import Derived.Test.YtdhmljjpiainnaaGreatDoorShGA
namespace Go.Proofs.YtdhmljjpiainnaaGreatDoor.Sx
open Go Go.Proofs.YtdhmljjpiainnaaGreatDoor.Ev
set_option maxRecDepth 20000
set_option maxHeartbeats 4000000
abbrev zc0 : List XV := [I (.z 0), I (.z 0), I (.z 0), I (.z 0), .txt (.tl []), .bool (.bl false), I (.z 0), I (.z 0), I (.z 0), I (.z 0), I (.z 0), .txt (.tl []), .bool (.bl false), I (.z 0), .txt (.tl []), I (.z 0), I (.z 0), I (.z 0), I (.z 0), .bool (.bl false), .bool (.bl false), I (.z 0), I (.z 0), I (.z 0), I (.z 0), .bool (.bl false), .bool (.bl false), I (.z 0), .lit (.slice none 0 0)]
abbrev zc1 : List XV := [I (.z 0), I (.z 0), I (.z 0), I (.z 0), .txt (.tv 0), .bool (.bl false), I (.z 0), I (.z 0), I (.z 0), I (.z 0), I (.z 0), .txt (.tv 1), .bool (.bl false), I (.z 0), .txt (.tv 2), I (.z 0), I (.z 0), I (.z 0), I (.z 0), .bool (.bl false), .bool (.bl false), I (.z 0), I (.z 0), I (.z 0), I (.z 0), .bool (.bl false), .bool (.bl false), I (.z 0), .lit (.slice none 0 0)]
abbrev zc2 : List MI := [.blk 0 [.ptr 1 0, .ptr 2 0, .ptr 3 0, .ptr 4 0] 98, .asr 2, .asr 3, .blk 3 [.lit (.map none)] 231]
abbrev zc3 : List MI := [.blk 0 [.ptr 1 0, .ptr 2 0, .ptr 3 0, .ptr 4 0] 98, .asr 0, .asr 1]
abbrev zc4 : List MI := [.blk 0 [.ptr 1 0, .ptr 2 0, .ptr 3 0, .ptr 4 0] 98, .asr 2, .asr 3]
abbrev zc5 : List XV := [.ptr 0 0, .agg [I (.v 0), I (.v 1), I (.v 2), I (.v 3)]]
abbrev zc6 : List MI := [.blk 0 [.ptr 1 0, .ptr 2 0, .ptr 3 0, .ptr 4 0] 98]
abbrev zc7 : List XV := [.ptr 1 0, .ptr 2 0, .ptr 3 0, .ptr 4 0]
abbrev zc8 : List XV := [I (.v 2), I (.v 3), I (.v 4), I (.v 5)]
abbrev zc9 : List XV := [I (.v 0), I (.v 1), I (.v 2), I (.v 3)]
abbrev zc10 : List MI := [.blk 0 [.lit (.map none)] 231]
abbrev zc11 : List MI := [.blk 3 [.lit (.map none)] 231]
abbrev zc12 : List XV := [.ptr 0 0, I (.v 0), I (.v 1)]
theorem qc0 {P : Prop} (h : P := by first | omega | (and_intros <;> intros <;> and_intros <;> first | omega | assumption | exact ids_len _ | exact liv_len _ | (simp at *; omega) | (simp_all; done) | (simp_all; omega))) : P := h
theorem qc1 {P : Prop} (h : P := by first | trivial | omega | (and_intros <;> intros <;> and_intros <;> first | trivial | omega | assumption | (simp at *; omega) | (simp_all; done) | (simp_all; omega))) : P := h
theorem qc2 {P : Prop} (h : P := by first | omega | (and_intros <;> intros <;> and_intros <;> first | omega | assumption | rfl | (rw [hi.2.2.2, show (i + 1).toNat = i.toNat + 1 by omega, first_snoc, show ((i.toNat : Nat) : Int) = i by omega]; done) | (simp only [List.length_append, List.length_cons, List.length_nil]; omega) | (rw [hi.2.2.2]; exact first_nodup _) | (rw [hi.2.2.2]; exact first_no0 _) | exact first_nodup _ | exact first_no0 _ | (simp only [first_len]; omega) | (rw [first_len]; omega) | exact ids_len _ | exact liv_len _ | (simp at *; omega) | (simp_all; done) | (simp_all; omega))) : P := h
theorem qc3 {P : Prop} (h : P := by first | rfl | (show (.agg [iV 0, iV 0, iV 0, iV 0, sV ([] : List UInt8), bV false, iV 0, iV 0, iV 0, iV 0, iV 0, sV ([] : List UInt8), bV false, iV 0, sV ([] : List UInt8), iV 0, iV 0, iV 0, iV 0, bV false, bV false, iV 0, iV 0, iV 0, iV 0, bV false, bV false, iV 0, .lit (.slice none 0 0)] : SV) = _; simp_all)) : P := h
theorem qc4 {P : Prop} (h : P := by first | rfl | (show (.ptr bk0 0 : SV) = _; simp_all)) : P := h
theorem qc5 {P : Prop} (h : P := by first | rfl | (show (.tuple [.agg [iV 0, iV 0, iV 0, iV 0], bV false] : SV) = _; simp_all)) : P := h
theorem qc6 {P : Prop} (h : P := by first | rfl | (show (.tuple [iV 0, iV 0, bV false] : SV) = _; simp_all)) : P := h
def firstIds (n : Nat) : List IdL := (List.range n).map fun i : Nat => ((0 : Int), (i : Int) + 1)
theorem first_len (n : Nat) : (firstIds n).length = n := by simp [firstIds]
theorem first_snoc (n : Nat) : firstIds (n + 1) = firstIds n ++ [((0 : Int), (n : Int) + 1)] := by simp [firstIds, List.range_succ]
theorem first_mem {n : Nat} {x : IdL} (h : x ∈ firstIds n) : x.1 = 0 ∧ 1 ≤ x.2 ∧ x.2 ≤ n := by
  obtain ⟨i, hi, rfl⟩ := List.mem_map.1 h
  have := List.mem_range.1 hi
  refine ⟨rfl, ?_, ?_⟩
  · show (1 : Int) ≤ (i : Int) + 1
    omega
  · show (i : Int) + 1 ≤ (n : Int)
    omega
theorem first_nodup : ∀ n : Nat, (firstIds n).Nodup
  | 0 => List.nodup_nil
  | n + 1 => by
    rw [first_snoc, List.nodup_append]
    refine ⟨first_nodup n, by simp, fun a ha b hb e => ?_⟩
    rw [List.mem_singleton.1 hb] at e
    have := first_mem ha
    rw [e] at this
    simp only at this
    omega
theorem first_no0 (n : Nat) : ((0, 0) : IdL) ∉ firstIds n := fun h => by
  have := first_mem h
  simp only at this
  omega
def firstAx (n : Int) : AX := (firstIds n.toNat).map fun x => (x, true)
theorem firstAx_ids (n : Int) : idsOf (firstAx n) = firstIds n.toNat := by
  simp only [idsOf, firstAx, List.map_map]
  exact List.map_id _
theorem firstAx_len (n : Int) : (firstAx n).length = n.toNat := by simp [firstAx, first_len]
theorem firstAx_nodup (n : Int) : (idsOf (firstAx n)).Nodup := by rw [firstAx_ids]; exact first_nodup _
def cutN (n : Int) : Int := min (max n 0) 1000
theorem cutN_rng (n : Int) : 0 ≤ cutN n ∧ cutN n ≤ 1000 := by unfold cutN; omega
abbrev w11Q (_Γ : Glob) (n : Int) (l : List Asrt) (Zq : Hp) (vq : SV) (hq : Hp) : Prop := ∃ P : Nat, (True) ∧ vq = .ptr P 0 ∧ St Zq (axA P (firstAx (cutN n)) :: l) hq
noncomputable abbrev w11C (Γ : Glob) (n : Int) (Z0 : Hp) (l : List Asrt) : Cx := fnC Tryz.prog Γ Tryz.f110 1 [] (subA Z0 :: l) (PostZ Z0 (w11Q Γ n l))
theorem w11_l1 (Γ : Glob) [Mute Γ] (n : Int)  {Z0 : Hp} {l : List Asrt} : ∀ (m : Nat) (Z : Hp) (i : Int) (ids : SV) (X : List IdL) (_hi : 0 ≤ i ∧ i ≤ min (max n 0) 1000 ∧ (X.length : Int) = i ∧ X = firstIds i.toNat) (_hm : (min (max n 0) 1000 - i).toNat < m), den (w11C Γ n Z0 l) (.stop [0, 1, 0, 1, 1] [(3, .raw 0), (7, I (.v 2)), (8, I (.v 3))] [.asr 1]) ⟨4, 0, 0, 1, 0, 2⟩ (va { i := [n, (max n 0), (min (max n 0) 1000), i], r := [ids], a := [lsA 25 2 idE (oneS (.lit (.slice none 0 0))) [], lsA 25 2 idE (oneS ids) X] }) Z := by
  intro m
  induction m with
  | zero => intros; omega
  | succ m ih =>
    intro Z i ids X hi hm
    refine sx_loop [0, 1, 0, 1, 1] [(3, .raw 0), (7, I (.v 2)), (8, I (.v 3))] [.asr 1] [] ⟨4, 0, 0, 1, 0, 2⟩ (.fork (.lt (.v 3) (.v 2)) (.vc (xI (.add (.v 3) (.z 1))) <| .new <| .eff (.app [43, 43] (.raw 0) (.slice 0 0 1 1)) [.asr 1, .blk 0 [I (.z 0), I (.add (.v 3) (.z 1))] 25] (.raw 1) [.asr 2] ⟨4, 0, 0, 2, 1, 3⟩ <| .vc (xI (.add (.v 3) (.z 1))) <| .stop [0, 1, 0, 1, 1] [(3, .raw 1), (7, I (.v 2)), (8, I (.add (.v 3) (.z 1)))] [.asr 2]) <| .call 181 [.raw 0] [.asr 1] (.ptr 0 0) [.asr 2, .asr 3] ⟨4, 0, 0, 1, 1, 4⟩ <| .ret (.ptr 0 0) [.asr 3]) 100000 (by kernel_rfl) (fun _ h => by cases h) ?_
    refine d_if (fun (cd1 : i < (min (max n 0) 1000)) => ?_) (fun (cd1 : ¬ (i < (min (max n 0) 1000))) => ?_)
    · refine d_vc (show I6 (i + 1) from qc2) ?_
      refine d_new fun bk0 => ?_
      refine d_eff (fun (v100 : SV) => { r := [v100], a := [lsA 25 2 idE (oneS v100) (X ++ [(0, (i + 1))])] }) (fun _ => True) (fun l h hs => ls_push (m := l) (h := h) rfl idE_info (by decide) hs (by first | rfl | rfl) rfl rfl qc2) fun v100 _ => ?_
      refine d_vc (show I6 (i + 1) from qc2) ?_
      exact d_stop (ih _ (i + 1) v100 (X ++ [(0, (i + 1))]) qc2 qc2) rfl rfl
    · refine d_call (α := Nat) (fun (P101 : Nat) => { n := [P101], a := [lsA 25 2 idE (oneS ids) X, axA P101 (X.map fun x => (x, true))] }) (fun (P101 : Nat) => True) (fun l h hs => w1r (h := h) (l := l) Γ ids X qc2 hs) fun Z P101 qd101 => ?_
      exact d_retZ fun h hs => ⟨P101, qc1, by first | rfl | (show (.ptr P101 0 : SV) = _; simp_all), by first | exact hs | (rw [show firstAx (cutN n) = X.map (fun x => (x, true)) by rw [hi.2.2.2, firstAx, show (cutN n).toNat = i.toNat by unfold cutN; omega]]; exact hs)⟩
theorem w11r (Γ : Glob) [Mute Γ] (n : Int)  {Z0 h : Hp} {l : List Asrt} (hs : St Z0 (l) h) : Runs Tryz.prog Γ (.call 110 [iV n] h) fun oq => ∃ Z', Sub Z0 Z' ∧ w11Q Γ n l Z' oq.v oq.hp := by
  refine sx_fnZ (Γ := Γ) (Q := w11Q Γ n l) Tryz.f110 Tryz.func110 (by kernel_rfl) [I (.v 0)] [] ⟨1, 0, 0, 0, 0, 0⟩ (va { i := [n] }) (.row (.mx #[3, 3] [I (.v 0), I (.z 0)]) [] (I (.v 1)) ⟨2, 0, 0, 0, 0, 0⟩ <| .row (.mn #[3, 3] [I (.v 1), I (.z 1000)]) [] (I (.v 2)) ⟨3, 0, 0, 0, 0, 0⟩ <| .swap [] [.asr 0] ⟨3, 0, 0, 0, 0, 1⟩ <| .stop [0, 1, 0, 1, 1] [(3, .lit (.slice none 0 0)), (7, I (.v 2)), (8, I (.z 0))] [.asr 0]) 100000 (by kernel_rfl) hs rfl ?_
  refine d_row0 { i := [(max n 0)] } (fun _ => mx_int _ _) ?_
  refine d_row0 { i := [(min (max n 0) 1000)] } (fun _ => mn_int _ _) ?_
  refine d_swap (α := Unit) (fun (_ : Unit) => { a := [lsA 25 2 idE (oneS (.lit (.slice none 0 0))) []] }) (fun (_ : Unit) => True) (fun l h hs => ⟨(), ⟨trivial, ls_nil (hs) (m := l) (h := h)⟩⟩) fun _ qs0 => ?_
  exact d_stop (w11_l1 Γ n  _ _ 0 (.lit (.slice none 0 0)) ([]) qc2 (Nat.lt_succ_self _)) rfl rfl
abbrev w12Q (_Γ : Glob)  (l : List Asrt) (Zq : Hp) (vq : SV) (hq : Hp) : Prop := ∃ K : Nat, (True) ∧ vq = .ptr K 0 ∧ St Zq (own K (.cells [.lit (.map none)] 231) :: l) hq
theorem w12r (Γ : Glob) [Mute Γ]   {Z0 h : Hp} {l : List Asrt} (hs : St Z0 (l) h) : Runs Tryz.prog Γ (.call 111 [] h) fun oq => ∃ Z', Sub Z0 Z' ∧ w12Q Γ  l Z' oq.v oq.hp := by
  refine sx_fnZ (Γ := Γ) (Q := w12Q Γ  l) Tryz.f111 Tryz.func111 (by kernel_rfl) [] [] {} (va {  }) (.new <| .ret (.ptr 0 0) zc10) 100000 (by kernel_rfl) hs rfl ?_
  refine d_new fun bk0 => ?_
  exact d_retZ fun h hs => ⟨bk0, qc1, qc4, hs⟩
abbrev w13Q (_Γ : Glob)  (l : List Asrt) (Zq : Hp) (vq : SV) (hq : Hp) : Prop := ∃ N : Nat, (True) ∧ vq = .ptr N 0 ∧ St Zq (own N (.cells [.lit (.map none)] 241) :: l) hq
theorem w13r (Γ : Glob) [Mute Γ]   {Z0 h : Hp} {l : List Asrt} (hs : St Z0 (l) h) : Runs Tryz.prog Γ (.call 112 [] h) fun oq => ∃ Z', Sub Z0 Z' ∧ w13Q Γ  l Z' oq.v oq.hp := by
  refine sx_fnZ (Γ := Γ) (Q := w13Q Γ  l) Tryz.f112 Tryz.func112 (by kernel_rfl) [] [] {} (va {  }) (.new <| .ret (.ptr 0 0) [.blk 0 [.lit (.map none)] 241]) 100000 (by kernel_rfl) hs rfl ?_
  refine d_new fun bk0 => ?_
  exact d_retZ fun h hs => ⟨bk0, qc1, qc4, hs⟩
abbrev w14Q (_Γ : Glob) (r c : Int) (l : List Asrt) (Zq : Hp) (vq : SV) (hq : Hp) : Prop := ∃ S : Nat, ∃ R : Nat, ∃ C : Nat, ∃ K : Nat, ∃ N : Nat, (True) ∧ vq = .ptr S 0 ∧ St Zq (own S (.cells [.ptr R 0, .ptr C 0, .ptr K 0, .ptr N 0] 98) :: axA R (firstAx (cutN r)) :: axA C (firstAx (cutN c)) :: own K (.cells [.lit (.map none)] 231) :: own N (.cells [.lit (.map none)] 241) :: l) hq
theorem w14r (Γ : Glob) [Mute Γ] (r c : Int)  {Z0 h : Hp} {l : List Asrt} (hs : St Z0 (l) h) : Runs Tryz.prog Γ (.call 58 [iV r, iV c] h) fun oq => ∃ Z', Sub Z0 Z' ∧ w14Q Γ r c l Z' oq.v oq.hp := by
  refine sx_fnZ (Γ := Γ) (Q := w14Q Γ r c l) Tryz.f58 Tryz.func58 (by kernel_rfl) [I (.v 0), I (.v 1)] [] ⟨2, 0, 0, 0, 0, 0⟩ (va { i := [r, c] }) (.call 110 [I (.v 0)] [] (.ptr 0 0) [.asr 0] ⟨2, 0, 0, 0, 1, 1⟩ <| .call 110 [I (.v 1)] [] (.ptr 1 0) [.asr 1] ⟨2, 0, 0, 0, 2, 2⟩ <| .call 111 [] [] (.ptr 2 0) [.blk 2 [.lit (.map none)] 231] ⟨2, 0, 0, 0, 3, 2⟩ <| .call 112 [] [] (.ptr 3 0) [.blk 3 [.lit (.map none)] 241] ⟨2, 0, 0, 0, 4, 2⟩ <| .new <| .ret (.ptr 4 0) [.blk 4 [.ptr 0 0, .ptr 1 0, .ptr 2 0, .ptr 3 0] 98, .asr 0, .asr 1, .blk 2 [.lit (.map none)] 231, .blk 3 [.lit (.map none)] 241]) 100000 (by kernel_rfl) hs rfl ?_
  refine d_call (α := Nat) (fun (P0 : Nat) => { n := [P0], a := [axA P0 (firstAx (cutN r))] }) (fun (P0 : Nat) => True) (fun l h hs => w11r (h := h) (l := l) Γ r  hs) fun Z P0 qd0 => ?_
  refine d_call (α := Nat) (fun (P1 : Nat) => { n := [P1], a := [axA P1 (firstAx (cutN c))] }) (fun (P1 : Nat) => True) (fun l h hs => w11r (h := h) (l := l) Γ c  hs) fun Z P1 qd1 => ?_
  refine d_call (α := Nat) (fun (K2 : Nat) => { n := [K2] }) (fun (K2 : Nat) => True) (fun l h hs => w12r (h := h) (l := l) Γ   hs) fun Z K2 qd2 => ?_
  refine d_call (α := Nat) (fun (N3 : Nat) => { n := [N3] }) (fun (N3 : Nat) => True) (fun l h hs => w13r (h := h) (l := l) Γ   hs) fun Z N3 qd3 => ?_
  refine d_new fun bk4 => ?_
  exact d_retZ fun h hs => ⟨bk4, P0, P1, K2, N3, qc1, by first | rfl | (show (.ptr bk4 0 : SV) = _; simp_all), hs⟩
abbrev w15Q (_Γ : Glob) (S R : Nat) (C K N : Nat) (l : List Asrt) (Zq : Hp) (vq : SV) (hq : Hp) : Prop := (True) ∧ vq = bV true ∧ St Zq (own S (.cells [.ptr R 0, .ptr C 0, .ptr K 0, .ptr N 0] 98) :: l) hq
theorem w15r (Γ : Glob) [Mute Γ] (S R : Nat) (C K N : Nat)  {Z0 h : Hp} {l : List Asrt} (hs : St Z0 (own S (.cells [.ptr R 0, .ptr C 0, .ptr K 0, .ptr N 0] 98) :: l) h) : Runs Tryz.prog Γ (.call 56 [.ptr S 0] h) fun oq => ∃ Z', Sub Z0 Z' ∧ w15Q Γ S R C K N l Z' oq.v oq.hp := by
  refine sx_fnZ (Q := w15Q Γ S R C K N l) Tryz.f56 Tryz.func56 (by kernel_rfl) [.ptr 0 0] zc6 ⟨0, 0, 0, 0, 5, 0⟩ (va { n := [S, R, C, K, N] }) (.ret (.bool (.bl true)) zc6) 100000 (by kernel_rfl) hs rfl ?_
  exact d_retZ fun h hs => ⟨qc1, by first | rfl | (show (bV true : SV) = _; simp_all), hs⟩
abbrev w16Q (_Γ : Glob) (S : Nat) (i k : Int) (R C : Nat) (K N : Nat) (A B : AX) (l : List Asrt) (Zq : Hp) (vq : SV) (hq : Hp) : Prop := ∃ ra : Int, ∃ rn : Int, ∃ ca : Int, ∃ cn : Int, ∃ ok : Bool, ((ok = true → 0 ≤ i ∧ i < ((alivesOf A).length : Int) ∧ 0 ≤ k ∧ k < ((alivesOf B).length : Int) ∧ (ra, rn) = lget (alivesOf A) i ∧ (ca, cn) = lget (alivesOf B) k) ∧ (ok = false → ¬ (0 ≤ i ∧ i < ((alivesOf A).length : Int) ∧ 0 ≤ k ∧ k < ((alivesOf B).length : Int)))) ∧ vq = .tuple [.agg [iV ra, iV rn, iV ca, iV cn], bV ok] ∧ St Zq (own S (.cells [.ptr R 0, .ptr C 0, .ptr K 0, .ptr N 0] 98) :: axA R A :: axA C B :: l) hq
theorem w16r (Γ : Glob) [Mute Γ] (S : Nat) (i k : Int) (R C : Nat) (K N : Nat) (A B : AX) (h1 : (idsOf A).Nodup ∧ (A.length : Int) ≤ 1000) (hL : ((idsOf A).length : Int) = A.length) (hM : ((livOf A).length : Int) = A.length) (g1 : (idsOf B).Nodup ∧ (B.length : Int) ≤ 1000) (gL : ((idsOf B).length : Int) = B.length) (gM : ((livOf B).length : Int) = B.length) {Z0 h : Hp} {l : List Asrt} (hs : St Z0 (own S (.cells [.ptr R 0, .ptr C 0, .ptr K 0, .ptr N 0] 98) :: axA R A :: axA C B :: l) h) : Runs Tryz.prog Γ (.call 24 [.ptr S 0, iV i, iV k] h) fun oq => ∃ Z', Sub Z0 Z' ∧ w16Q Γ S i k R C K N A B l Z' oq.v oq.hp := by
  refine sx_fnZ (Q := w16Q Γ S i k R C K N A B l) Tryz.f24 Tryz.func24 (by kernel_rfl) zc12 zc3 ⟨2, 0, 0, 0, 5, 2⟩ (va { i := [i, k], n := [S, R, C, K, N], a := [axA R A, axA C B] }) (.new <| .call 56 [.ptr 0 0] zc6 (.bool (.bl true)) zc6 ⟨2, 0, 0, 0, 6, 2⟩ <| .call 66 [.ptr 1 0, I (.v 0)] [.asr 0] (.tup [.agg [I (.v 2), I (.v 3)], .bool (.bv 0)]) [.asr 2] ⟨4, 0, 1, 0, 6, 3⟩ <| .new <| .fork (.bv 0) (.call 66 [.ptr 2 0, I (.v 1)] [.asr 1] (.tup [.agg [I (.v 4), I (.v 5)], .bool (.bv 1)]) [.asr 3] ⟨6, 0, 2, 0, 7, 4⟩ <| .new <| .fork (.bv 1) (.ret (.tup [.agg zc8, .bool (.bl true)]) zc4) <| .ret (.tup [.agg [I (.z 0), I (.z 0), I (.z 0), I (.z 0)], .bool (.bl false)]) zc4) <| .ret (.tup [.agg [I (.z 0), I (.z 0), I (.z 0), I (.z 0)], .bool (.bl false)]) [.blk 0 zc7 98, .asr 2, .asr 1]) 100000 (by kernel_rfl) hs rfl ?_
  refine d_new fun bk5 => ?_
  refine d_call (α := Unit) (fun (_ : Unit) => {  }) (fun (_ : Unit) => True) (fun l h hs => (w15r (h := h) (l := l) Γ S R C K N  hs).mono fun _ ⟨Z1, z1, hq_, he_, hs_⟩ => ⟨Z1, z1, (), hq_, he_, hs_⟩) fun Z _ qd0 => ?_
  refine d_call (α := Int × Int × Bool) (fun (⟨ra1, rn1, ok1⟩ : Int × Int × Bool) => { i := [ra1, rn1], b := [ok1], a := [axA R A] }) (fun (⟨ra1, rn1, ok1⟩ : Int × Int × Bool) => (ok1 = true → 0 ≤ i ∧ i < ((alivesOf A).length : Int) ∧ ra1 = (lget (alivesOf A) i).1 ∧ rn1 = (lget (alivesOf A) i).2) ∧ (ok1 = false → ra1 = 0 ∧ rn1 = 0 ∧ ¬ (0 ≤ i ∧ i < ((alivesOf A).length : Int)))) (fun l h hs => (w6r (h := h) (l := l) Γ R i A qc0 qc0 qc0 hs).mono fun _ ⟨Z1, z1, ra1, rn1, ok1, hq_, he_, hs_⟩ => ⟨Z1, z1, ⟨ra1, rn1, ok1⟩, hq_, he_, hs_⟩) fun Z ⟨ra1, rn1, ok1⟩ qd1 => ?_
  refine d_new fun bk6 => ?_
  refine d_if (fun (cd1 : ok1 = true) => ?_) (fun (cd1 : ¬ (ok1 = true)) => ?_)
  · refine d_call (α := Int × Int × Bool) (fun (⟨ra2, rn2, ok2⟩ : Int × Int × Bool) => { i := [ra2, rn2], b := [ok2], a := [axA C B] }) (fun (⟨ra2, rn2, ok2⟩ : Int × Int × Bool) => (ok2 = true → 0 ≤ k ∧ k < ((alivesOf B).length : Int) ∧ ra2 = (lget (alivesOf B) k).1 ∧ rn2 = (lget (alivesOf B) k).2) ∧ (ok2 = false → ra2 = 0 ∧ rn2 = 0 ∧ ¬ (0 ≤ k ∧ k < ((alivesOf B).length : Int)))) (fun l h hs => (w6r (h := h) (l := l) Γ C k B qc0 qc0 qc0 hs).mono fun _ ⟨Z1, z1, ra2, rn2, ok2, hq_, he_, hs_⟩ => ⟨Z1, z1, ⟨ra2, rn2, ok2⟩, hq_, he_, hs_⟩) fun Z ⟨ra2, rn2, ok2⟩ qd2 => ?_
    refine d_new fun bk7 => ?_
    refine d_if (fun (cd2 : ok2 = true) => ?_) (fun (cd2 : ¬ (ok2 = true)) => ?_)
    · exact d_retZ fun h hs => ⟨ra1, rn1, ra2, rn2, true, qc1, by first | rfl | (show (.tuple [.agg [iV ra1, iV rn1, iV ra2, iV rn2], bV true] : SV) = _; simp_all), hs⟩
    · exact d_retZ fun h hs => ⟨0, 0, 0, 0, false, qc1, qc5, hs⟩
  · exact d_retZ fun h hs => ⟨0, 0, 0, 0, false, qc1, qc5, hs⟩
abbrev w17Q (_Γ : Glob) (xa xn : Int) (ya yn : Int) (R C : Nat) (A B : AX) (l : List Asrt) (Zq : Hp) (vq : SV) (hq : Hp) : Prop := ∃ r : Int, ∃ c : Int, ∃ ok : Bool, (ok = ((placeOf A (xa, xn)).2 && (placeOf B (ya, yn)).2) ∧ (ok = true → r = (placeOf A (xa, xn)).1 ∧ c = (placeOf B (ya, yn)).1)) ∧ vq = .tuple [iV r, iV c, bV ok] ∧ St Zq (axA R A :: axA C B :: l) hq
theorem w17r (Γ : Glob) [Mute Γ] (xa xn : Int) (ya yn : Int) (R C : Nat) (A B : AX) (h1 : (idsOf A).Nodup ∧ (A.length : Int) ≤ 1000) (hL : ((idsOf A).length : Int) = A.length) (hM : ((livOf A).length : Int) = A.length) (g1 : (idsOf B).Nodup ∧ (B.length : Int) ≤ 1000) (gL : ((idsOf B).length : Int) = B.length) (gM : ((livOf B).length : Int) = B.length) {Z0 h : Hp} {l : List Asrt} (hs : St Z0 (axA R A :: axA C B :: l) h) : Runs Tryz.prog Γ (.call 100 [.agg [iV xa, iV xn, iV ya, iV yn], .func (.func 101) [.ptr R 0] [], .func (.func 101) [.ptr C 0] []] h) fun oq => ∃ Z', Sub Z0 Z' ∧ w17Q Γ xa xn ya yn R C A B l Z' oq.v oq.hp := by
  refine sx_fnZ (Q := w17Q Γ xa xn ya yn R C A B l) Tryz.f100 Tryz.func100 (by kernel_rfl) [.agg zc9, .fn 101 [.ptr 0 0] [], .fn 101 [.ptr 1 0] []] [.asr 0, .asr 1] ⟨4, 0, 0, 0, 2, 2⟩ (va { i := [xa, xn, ya, yn], n := [R, C], a := [axA R A, axA C B] }) (.new <| .call 101 [.ptr 0 0, .agg [I (.v 0), I (.v 1)]] [.asr 0] (.tup [I (.v 4), .bool (.bv 0)]) [.asr 2] ⟨5, 0, 1, 0, 3, 3⟩ <| .fork (.bv 0) (.call 101 [.ptr 1 0, .agg [I (.v 2), I (.v 3)]] [.asr 1] (.tup [I (.v 5), .bool (.bv 1)]) [.asr 3] ⟨6, 0, 2, 0, 3, 4⟩ <| .fork (.bv 1) (.swap [.asr 2] [.asr 4] ⟨6, 0, 2, 0, 3, 5⟩ <| .swap [.asr 3] [.asr 5] ⟨6, 0, 2, 0, 3, 6⟩ <| .ret (.tup [I (.v 4), I (.v 5), .bool (.bl true)]) [.asr 4, .asr 5]) <| .swap [.asr 2] [.asr 4] ⟨6, 0, 2, 0, 3, 5⟩ <| .swap [.asr 3] [.asr 5] ⟨6, 0, 2, 0, 3, 6⟩ <| .ret (.tup [I (.z 0), I (.z 0), .bool (.bl false)]) [.asr 4, .asr 5]) <| .swap [.asr 2] [.asr 3] ⟨5, 0, 1, 0, 3, 4⟩ <| .ret (.tup [I (.z 0), I (.z 0), .bool (.bl false)]) [.asr 3, .asr 1]) 100000 (by kernel_rfl) hs rfl ?_
  refine d_new fun bk2 => ?_
  refine d_call (α := Int × Bool) (fun (⟨r0, ok0⟩ : Int × Bool) => { i := [r0], b := [ok0], a := [axR R A] }) (fun (⟨r0, ok0⟩ : Int × Bool) => ok0 = (placeOf A (xa, xn)).2 ∧ r0 = (placeOf A (xa, xn)).1) (fun l h hs => (w7r (h := h) (l := l) Γ R xa xn A qc0 qc0 qc0 hs).mono fun _ ⟨Z1, z1, r0, ok0, hq_, he_, hs_⟩ => ⟨Z1, z1, ⟨r0, ok0⟩, hq_, he_, hs_⟩) fun Z ⟨r0, ok0⟩ qd0 => ?_
  refine d_if (fun (cd1 : ok0 = true) => ?_) (fun (cd1 : ¬ (ok0 = true)) => ?_)
  · refine d_call (α := Int × Bool) (fun (⟨r1, ok1⟩ : Int × Bool) => { i := [r1], b := [ok1], a := [axR C B] }) (fun (⟨r1, ok1⟩ : Int × Bool) => ok1 = (placeOf B (ya, yn)).2 ∧ r1 = (placeOf B (ya, yn)).1) (fun l h hs => (w7r (h := h) (l := l) Γ C ya yn B qc0 qc0 qc0 hs).mono fun _ ⟨Z1, z1, r1, ok1, hq_, he_, hs_⟩ => ⟨Z1, z1, ⟨r1, ok1⟩, hq_, he_, hs_⟩) fun Z ⟨r1, ok1⟩ qd1 => ?_
    refine d_if (fun (cd2 : ok1 = true) => ?_) (fun (cd2 : ¬ (ok1 = true)) => ?_)
    · refine d_swap (α := Unit) (fun (_ : Unit) => { a := [axA R A] }) (fun (_ : Unit) => True) (fun l h hs => ⟨(), ⟨trivial, ax_weak (hs) (l := l) (h := h)⟩⟩) fun _ qs2 => ?_
      refine d_swap (α := Unit) (fun (_ : Unit) => { a := [axA C B] }) (fun (_ : Unit) => True) (fun l h hs => ⟨(), ⟨trivial, ax_weak (hs) (l := l) (h := h)⟩⟩) fun _ qs3 => ?_
      exact d_retZ fun h hs => ⟨r0, r1, true, qc1, by first | rfl | (show (.tuple [iV r0, iV r1, bV true] : SV) = _; simp_all), hs⟩
    · refine d_swap (α := Unit) (fun (_ : Unit) => { a := [axA R A] }) (fun (_ : Unit) => True) (fun l h hs => ⟨(), ⟨trivial, ax_weak (hs) (l := l) (h := h)⟩⟩) fun _ qs4 => ?_
      refine d_swap (α := Unit) (fun (_ : Unit) => { a := [axA C B] }) (fun (_ : Unit) => True) (fun l h hs => ⟨(), ⟨trivial, ax_weak (hs) (l := l) (h := h)⟩⟩) fun _ qs5 => ?_
      exact d_retZ fun h hs => ⟨0, 0, false, qc1, qc6, hs⟩
  · refine d_swap (α := Unit) (fun (_ : Unit) => { a := [axA R A] }) (fun (_ : Unit) => True) (fun l h hs => ⟨(), ⟨trivial, ax_weak (hs) (l := l) (h := h)⟩⟩) fun _ qs6 => ?_
    exact d_retZ fun h hs => ⟨0, 0, false, qc1, qc6, hs⟩
abbrev w18Q (_Γ : Glob) (S : Nat) (xa xn : Int) (ya yn : Int) (R C : Nat) (K N : Nat) (A B : AX) (l : List Asrt) (Zq : Hp) (vq : SV) (hq : Hp) : Prop := ∃ r : Int, ∃ c : Int, ∃ ok : Bool, (ok = ((placeOf A (xa, xn)).2 && (placeOf B (ya, yn)).2) ∧ (ok = true → r = (placeOf A (xa, xn)).1 ∧ c = (placeOf B (ya, yn)).1)) ∧ vq = .tuple [iV r, iV c, bV ok] ∧ St Zq (own S (.cells [.ptr R 0, .ptr C 0, .ptr K 0, .ptr N 0] 98) :: axA R A :: axA C B :: l) hq
theorem w18r (Γ : Glob) [Mute Γ] (S : Nat) (xa xn : Int) (ya yn : Int) (R C : Nat) (K N : Nat) (A B : AX) (h1 : (idsOf A).Nodup ∧ (A.length : Int) ≤ 1000) (hL : ((idsOf A).length : Int) = A.length) (hM : ((livOf A).length : Int) = A.length) (g1 : (idsOf B).Nodup ∧ (B.length : Int) ≤ 1000) (gL : ((idsOf B).length : Int) = B.length) (gM : ((livOf B).length : Int) = B.length) {Z0 h : Hp} {l : List Asrt} (hs : St Z0 (own S (.cells [.ptr R 0, .ptr C 0, .ptr K 0, .ptr N 0] 98) :: axA R A :: axA C B :: l) h) : Runs Tryz.prog Γ (.call 50 [.ptr S 0, .agg [iV xa, iV xn, iV ya, iV yn]] h) fun oq => ∃ Z', Sub Z0 Z' ∧ w18Q Γ S xa xn ya yn R C K N A B l Z' oq.v oq.hp := by
  refine sx_fnZ (Q := w18Q Γ S xa xn ya yn R C K N A B l) Tryz.f50 Tryz.func50 (by kernel_rfl) zc5 zc3 ⟨4, 0, 0, 0, 5, 2⟩ (va { i := [xa, xn, ya, yn], n := [S, R, C, K, N], a := [axA R A, axA C B] }) (.new <| .call 56 [.ptr 0 0] zc6 (.bool (.bl true)) zc6 ⟨4, 0, 0, 0, 6, 2⟩ <| .call 100 [.agg zc9, .fn 101 [.ptr 1 0] [], .fn 101 [.ptr 2 0] []] [.asr 0, .asr 1] (.tup [I (.v 4), I (.v 5), .bool (.bv 0)]) [.asr 2, .asr 3] ⟨6, 0, 1, 0, 6, 4⟩ <| .ret (.tup [I (.v 4), I (.v 5), .bool (.bv 0)]) zc4) 100000 (by kernel_rfl) hs rfl ?_
  refine d_new fun bk5 => ?_
  refine d_call (α := Unit) (fun (_ : Unit) => {  }) (fun (_ : Unit) => True) (fun l h hs => (w15r (h := h) (l := l) Γ S R C K N  hs).mono fun _ ⟨Z1, z1, hq_, he_, hs_⟩ => ⟨Z1, z1, (), hq_, he_, hs_⟩) fun Z _ qd0 => ?_
  refine d_call (α := Int × Int × Bool) (fun (⟨r1, c1, ok1⟩ : Int × Int × Bool) => { i := [r1, c1], b := [ok1], a := [axA R A, axA C B] }) (fun (⟨r1, c1, ok1⟩ : Int × Int × Bool) => ok1 = ((placeOf A (xa, xn)).2 && (placeOf B (ya, yn)).2) ∧ (ok1 = true → r1 = (placeOf A (xa, xn)).1 ∧ c1 = (placeOf B (ya, yn)).1)) (fun l h hs => (w17r (h := h) (l := l) Γ xa xn ya yn R C A B qc0 qc0 qc0 qc0 qc0 qc0 hs).mono fun _ ⟨Z1, z1, r1, c1, ok1, hq_, he_, hs_⟩ => ⟨Z1, z1, ⟨r1, c1, ok1⟩, hq_, he_, hs_⟩) fun Z ⟨r1, c1, ok1⟩ qd1 => ?_
  exact d_retZ fun h hs => ⟨r1, c1, ok1, qc1, by first | rfl | (show (.tuple [iV r1, iV c1, bV ok1] : SV) = _; simp_all), hs⟩
abbrev w19Q (_Γ : Glob) (K : Nat) (_xa _xn : Int) (_ya _yn : Int) (l : List Asrt) (Zq : Hp) (vq : SV) (hq : Hp) : Prop := (True) ∧ vq = .agg [iV 0, iV 0, iV 0, iV 0, sV ([] : List UInt8), bV false, iV 0, iV 0, iV 0, iV 0, iV 0, sV ([] : List UInt8), bV false, iV 0, sV ([] : List UInt8), iV 0, iV 0, iV 0, iV 0, bV false, bV false, iV 0, iV 0, iV 0, iV 0, bV false, bV false, iV 0, .lit (.slice none 0 0)] ∧ St Zq (own K (.cells [.lit (.map none)] 231) :: l) hq
theorem w19r (Γ : Glob) [Mute Γ] (K : Nat) (xa xn : Int) (ya yn : Int)  {Z0 h : Hp} {l : List Asrt} (hs : St Z0 (own K (.cells [.lit (.map none)] 231) :: l) h) : Runs Tryz.prog Γ (.call 68 [.ptr K 0, .agg [iV xa, iV xn, iV ya, iV yn]] h) fun oq => ∃ Z', Sub Z0 Z' ∧ w19Q Γ K xa xn ya yn l Z' oq.v oq.hp := by
  refine sx_fnZ (Q := w19Q Γ K xa xn ya yn l) Tryz.f68 Tryz.func68 (by kernel_rfl) zc5 zc10 ⟨4, 0, 0, 0, 1, 0⟩ (va { i := [xa, xn, ya, yn], n := [K] }) (.new <| .new <| .row (.look 229 (.lit (.map none)) (.agg zc9) true) [] (.tup [.lit (.agg #[(.int .i64 0), (.int .i64 0), (.int .i64 0), (.int .i64 0), (.string ⟨⟨[]⟩⟩), (.bool false), (.int .i64 0), (.int .i64 0), (.int .i64 0), (.int .i64 0), (.int .i64 0), (.string ⟨⟨[]⟩⟩), (.bool false), (.int .i64 0), (.string ⟨⟨[]⟩⟩), (.int .i64 0), (.int .i64 0), (.int .i64 0), (.int .i64 0), (.bool false), (.bool false), (.int .i64 0), (.int .i64 0), (.int .i64 0), (.int .i64 0), (.bool false), (.bool false), (.int .i64 0), (.slice none 0 0)]), .bool (.bl false)]) ⟨4, 0, 0, 0, 3, 0⟩ <| .new <| .ret (.agg zc0) zc10) 100000 (by kernel_rfl) hs rfl ?_
  refine d_new fun bk1 => ?_
  refine d_new fun bk2 => ?_
  refine d_row0 {} (fun _ => nil_look rfl rfl rfl (by kernel_rfl)) ?_
  refine d_new fun bk3 => ?_
  exact d_retZ fun h hs => ⟨qc1, qc3, hs⟩
abbrev w20Q (_Γ : Glob) (S : Nat) (_i _k : Int) (R C : Nat) (K N : Nat) (A B : AX) (l : List Asrt) (Zq : Hp) (vq : SV) (hq : Hp) : Prop := (True) ∧ vq = .agg [iV 0, iV 0, iV 0, iV 0, sV ([] : List UInt8), bV false, iV 0, iV 0, iV 0, iV 0, iV 0, sV ([] : List UInt8), bV false, iV 0, sV ([] : List UInt8), iV 0, iV 0, iV 0, iV 0, bV false, bV false, iV 0, iV 0, iV 0, iV 0, bV false, bV false, iV 0, .lit (.slice none 0 0)] ∧ St Zq (own S (.cells [.ptr R 0, .ptr C 0, .ptr K 0, .ptr N 0] 98) :: axA R A :: axA C B :: own K (.cells [.lit (.map none)] 231) :: l) hq
theorem w20r (Γ : Glob) [Mute Γ] (S : Nat) (i k : Int) (R C : Nat) (K N : Nat) (A B : AX) (h1 : (idsOf A).Nodup ∧ (A.length : Int) ≤ 1000) (hL : ((idsOf A).length : Int) = A.length) (hM : ((livOf A).length : Int) = A.length) (g1 : (idsOf B).Nodup ∧ (B.length : Int) ≤ 1000) (gL : ((idsOf B).length : Int) = B.length) (gM : ((livOf B).length : Int) = B.length) {Z0 h : Hp} {l : List Asrt} (hs : St Z0 (own S (.cells [.ptr R 0, .ptr C 0, .ptr K 0, .ptr N 0] 98) :: axA R A :: axA C B :: own K (.cells [.lit (.map none)] 231) :: l) h) : Runs Tryz.prog Γ (.call 27 [.ptr S 0, iV i, iV k] h) fun oq => ∃ Z', Sub Z0 Z' ∧ w20Q Γ S i k R C K N A B l Z' oq.v oq.hp := by
  refine sx_fnZ (Q := w20Q Γ S i k R C K N A B l) Tryz.f27 Tryz.func27 (by kernel_rfl) zc12 [.blk 0 zc7 98, .asr 0, .asr 1, .blk 3 [.lit (.map none)] 231] ⟨2, 0, 0, 0, 5, 2⟩ (va { i := [i, k], n := [S, R, C, K, N], a := [axA R A, axA C B] }) (.new <| .call 24 zc12 zc3 (.tup [.agg zc8, .bool (.bv 0)]) zc4 ⟨6, 0, 1, 0, 6, 4⟩ <| .new <| .fork (.bv 0) (.call 68 [.ptr 3 0, .agg zc8] zc11 (.agg zc1) zc11 ⟨6, 3, 1, 0, 7, 4⟩ <| .ret (.agg zc1) zc2) <| .ret (.agg zc0) zc2) 100000 (by kernel_rfl) hs rfl ?_
  refine d_new fun bk5 => ?_
  refine d_call (α := Int × Int × Int × Int × Bool) (fun (⟨ra0, rn0, ca0, cn0, ok0⟩ : Int × Int × Int × Int × Bool) => { i := [ra0, rn0, ca0, cn0], b := [ok0], a := [axA R A, axA C B] }) (fun (⟨ra0, rn0, ca0, cn0, ok0⟩ : Int × Int × Int × Int × Bool) => (ok0 = true → 0 ≤ i ∧ i < ((alivesOf A).length : Int) ∧ 0 ≤ k ∧ k < ((alivesOf B).length : Int) ∧ (ra0, rn0) = lget (alivesOf A) i ∧ (ca0, cn0) = lget (alivesOf B) k) ∧ (ok0 = false → ¬ (0 ≤ i ∧ i < ((alivesOf A).length : Int) ∧ 0 ≤ k ∧ k < ((alivesOf B).length : Int)))) (fun l h hs => (w16r (h := h) (l := l) Γ S i k R C K N A B qc0 qc0 qc0 qc0 qc0 qc0 hs).mono fun _ ⟨Z1, z1, ra0, rn0, ca0, cn0, ok0, hq_, he_, hs_⟩ => ⟨Z1, z1, ⟨ra0, rn0, ca0, cn0, ok0⟩, hq_, he_, hs_⟩) fun Z ⟨ra0, rn0, ca0, cn0, ok0⟩ qd0 => ?_
  refine d_new fun bk6 => ?_
  refine d_if (fun (cd1 : ok0 = true) => ?_) (fun (cd1 : ¬ (ok0 = true)) => ?_)
  · refine d_call (α := Unit) (fun (_ : Unit) => { t := [([] : List UInt8), ([] : List UInt8), ([] : List UInt8)] }) (fun (_ : Unit) => True) (fun l h hs => (w19r (h := h) (l := l) Γ K ra0 rn0 ca0 cn0  hs).mono fun _ ⟨Z1, z1, hq_, he_, hs_⟩ => ⟨Z1, z1, (), hq_, he_, hs_⟩) fun Z _ qd1 => ?_
    exact d_retZ fun h hs => ⟨qc1, qc3, hs⟩
  · exact d_retZ fun h hs => ⟨qc1, qc3, hs⟩
abbrev w21Q (_Γ : Glob) (K : Nat) (l : List Asrt) (Zq : Hp) (vq : SV) (hq : Hp) : Prop := ∃ J : Nat, (True) ∧ vq = .ptr J 0 ∧ St Zq (own K (.cells [.lit (.map none)] 231) :: own J (.cells [.lit (.map none)] 231) :: l) hq
theorem w21r (Γ : Glob) [Mute Γ] (K : Nat)  {Z0 h : Hp} {l : List Asrt} (hs : St Z0 (own K (.cells [.lit (.map none)] 231) :: l) h) : Runs Tryz.prog Γ (.call 94 [.ptr K 0] h) fun oq => ∃ Z', Sub Z0 Z' ∧ w21Q Γ K l Z' oq.v oq.hp := by
  refine sx_fnZ (Q := w21Q Γ K l) Tryz.f94 Tryz.func94 (by kernel_rfl) [.ptr 0 0] zc10 ⟨0, 0, 0, 0, 1, 0⟩ (va { n := [K] }) (.call 111 [] [] (.ptr 1 0) [.blk 1 [.lit (.map none)] 231] ⟨0, 0, 0, 0, 2, 0⟩ <| .ret (.ptr 1 0) [.blk 0 [.lit (.map none)] 231, .blk 1 [.lit (.map none)] 231]) 100000 (by kernel_rfl) hs rfl ?_
  refine d_call (α := Nat) (fun (K0 : Nat) => { n := [K0] }) (fun (K0 : Nat) => True) (fun l h hs => w12r (h := h) (l := l) Γ   hs) fun Z K0 qd0 => ?_
  exact d_retZ fun h hs => ⟨K0, qc1, by first | rfl | (show (.ptr K0 0 : SV) = _; simp_all), hs⟩
abbrev w22Q (_Γ : Glob) (N : Nat) (l : List Asrt) (Zq : Hp) (vq : SV) (hq : Hp) : Prop := ∃ J : Nat, (True) ∧ vq = .ptr J 0 ∧ St Zq (own N (.cells [.lit (.map none)] 241) :: own J (.cells [.lit (.map none)] 241) :: l) hq
theorem w22r (Γ : Glob) [Mute Γ] (N : Nat)  {Z0 h : Hp} {l : List Asrt} (hs : St Z0 (own N (.cells [.lit (.map none)] 241) :: l) h) : Runs Tryz.prog Γ (.call 95 [.ptr N 0] h) fun oq => ∃ Z', Sub Z0 Z' ∧ w22Q Γ N l Z' oq.v oq.hp := by
  refine sx_fnZ (Q := w22Q Γ N l) Tryz.f95 Tryz.func95 (by kernel_rfl) [.ptr 0 0] [.blk 0 [.lit (.map none)] 241] ⟨0, 0, 0, 0, 1, 0⟩ (va { n := [N] }) (.call 112 [] [] (.ptr 1 0) [.blk 1 [.lit (.map none)] 241] ⟨0, 0, 0, 0, 2, 0⟩ <| .ret (.ptr 1 0) [.blk 0 [.lit (.map none)] 241, .blk 1 [.lit (.map none)] 241]) 100000 (by kernel_rfl) hs rfl ?_
  refine d_call (α := Nat) (fun (N0 : Nat) => { n := [N0] }) (fun (N0 : Nat) => True) (fun l h hs => w13r (h := h) (l := l) Γ   hs) fun Z N0 qd0 => ?_
  exact d_retZ fun h hs => ⟨N0, qc1, by first | rfl | (show (.ptr N0 0 : SV) = _; simp_all), hs⟩
abbrev w23Q (_Γ : Glob) (S R : Nat) (C K N : Nat) (A B : AX) (l : List Asrt) (Zq : Hp) (vq : SV) (hq : Hp) : Prop := ∃ T : Nat, ∃ R2 : Nat, ∃ C2 : Nat, ∃ K2 : Nat, ∃ N2 : Nat, (True) ∧ vq = .ptr T 0 ∧ St Zq (own S (.cells [.ptr R 0, .ptr C 0, .ptr K 0, .ptr N 0] 98) :: axA R A :: axA C B :: own K (.cells [.lit (.map none)] 231) :: own N (.cells [.lit (.map none)] 241) :: own T (.cells [.ptr R2 0, .ptr C2 0, .ptr K2 0, .ptr N2 0] 98) :: axA R2 A :: axA C2 B :: own K2 (.cells [.lit (.map none)] 231) :: own N2 (.cells [.lit (.map none)] 241) :: l) hq
theorem w23r (Γ : Glob) [Mute Γ] (S R : Nat) (C K N : Nat) (A B : AX) (h1 : (idsOf A).Nodup ∧ (A.length : Int) ≤ 1000) (hL : ((idsOf A).length : Int) = A.length) (hM : ((livOf A).length : Int) = A.length) (g1 : (idsOf B).Nodup ∧ (B.length : Int) ≤ 1000) (gL : ((idsOf B).length : Int) = B.length) (gM : ((livOf B).length : Int) = B.length) {Z0 h : Hp} {l : List Asrt} (hs : St Z0 (own S (.cells [.ptr R 0, .ptr C 0, .ptr K 0, .ptr N 0] 98) :: axA R A :: axA C B :: own K (.cells [.lit (.map none)] 231) :: own N (.cells [.lit (.map none)] 241) :: l) h) : Runs Tryz.prog Γ (.call 45 [.ptr S 0] h) fun oq => ∃ Z', Sub Z0 Z' ∧ w23Q Γ S R C K N A B l Z' oq.v oq.hp := by
  refine sx_fnZ (Q := w23Q Γ S R C K N A B l) Tryz.f45 Tryz.func45 (by kernel_rfl) [.ptr 0 0] [.blk 0 zc7 98, .asr 0, .asr 1, .blk 3 [.lit (.map none)] 231, .blk 4 [.lit (.map none)] 241] ⟨0, 0, 0, 0, 5, 2⟩ (va { n := [S, R, C, K, N], a := [axA R A, axA C B] }) (.call 56 [.ptr 0 0] zc6 (.bool (.bl true)) zc6 ⟨0, 0, 0, 0, 5, 2⟩ <| .call 93 [.ptr 1 0] [.asr 0] (.ptr 5 0) [.asr 2, .asr 3] ⟨0, 0, 0, 0, 6, 4⟩ <| .call 93 [.ptr 2 0] [.asr 1] (.ptr 6 0) [.asr 4, .asr 5] ⟨0, 0, 0, 0, 7, 6⟩ <| .call 94 [.ptr 3 0] zc11 (.ptr 7 0) [.blk 3 [.lit (.map none)] 231, .blk 7 [.lit (.map none)] 231] ⟨0, 0, 0, 0, 8, 6⟩ <| .call 95 [.ptr 4 0] [.blk 4 [.lit (.map none)] 241] (.ptr 8 0) [.blk 4 [.lit (.map none)] 241, .blk 8 [.lit (.map none)] 241] ⟨0, 0, 0, 0, 9, 6⟩ <| .new <| .ret (.ptr 9 0) [.blk 0 zc7 98, .asr 2, .asr 4, .blk 3 [.lit (.map none)] 231, .blk 4 [.lit (.map none)] 241, .blk 9 [.ptr 5 0, .ptr 6 0, .ptr 7 0, .ptr 8 0] 98, .asr 3, .asr 5, .blk 7 [.lit (.map none)] 231, .blk 8 [.lit (.map none)] 241]) 100000 (by kernel_rfl) hs rfl ?_
  refine d_call (α := Unit) (fun (_ : Unit) => {  }) (fun (_ : Unit) => True) (fun l h hs => (w15r (h := h) (l := l) Γ S R C K N  hs).mono fun _ ⟨Z1, z1, hq_, he_, hs_⟩ => ⟨Z1, z1, (), hq_, he_, hs_⟩) fun Z _ qd0 => ?_
  refine d_call (α := Nat) (fun (R1 : Nat) => { n := [R1], a := [axA R A, axA R1 A] }) (fun (R1 : Nat) => True) (fun l h hs => w10r (h := h) (l := l) Γ R A qc0 qc0 qc0 hs) fun Z R1 qd1 => ?_
  refine d_call (α := Nat) (fun (R2 : Nat) => { n := [R2], a := [axA C B, axA R2 B] }) (fun (R2 : Nat) => True) (fun l h hs => w10r (h := h) (l := l) Γ C B qc0 qc0 qc0 hs) fun Z R2 qd2 => ?_
  refine d_call (α := Nat) (fun (J3 : Nat) => { n := [J3] }) (fun (J3 : Nat) => True) (fun l h hs => w21r (h := h) (l := l) Γ K  hs) fun Z J3 qd3 => ?_
  refine d_call (α := Nat) (fun (J4 : Nat) => { n := [J4] }) (fun (J4 : Nat) => True) (fun l h hs => w22r (h := h) (l := l) Γ N  hs) fun Z J4 qd4 => ?_
  refine d_new fun bk9 => ?_
  exact d_retZ fun h hs => ⟨bk9, R1, R2, J3, J4, qc1, by first | rfl | (show (.ptr bk9 0 : SV) = _; simp_all), hs⟩
open Go Go.Proofs.YtdhmljjpiainnaaGreatDoor.Ev
set_option maxRecDepth 20000
set_option maxHeartbeats 4000000
abbrev zd0 : List MI := [.blk 1 [I (.v 0), I (.v 1)] 25, .blk 0 [.raw 0, .raw 1] 201, .asr 0]
abbrev zd1 : List (Nat × XV) := [(0, .raw 0), (3, .ptr 0 0), (4, I (.add (.v 0) (.z 1)))]
abbrev zd2 : List MI := [.asr 4, .asr 3, .blk 0 [.raw 1, .raw 2] 201, .asr 0]
abbrev zd3 : List MI := [.asr 4, .asr 5, .blk 0 [.raw 5, .raw 6] 201, .asr 0]
abbrev zd4 : List MI := [.asr 3, .blk 0 [.raw 0, .raw 1] 201, .asr 0, .asr 1]
abbrev zd5 : List MI := [.blk 0 [.raw 0, .raw 1] 201, .asr 0]
theorem qd0 {P : Prop} (h : P := by first | omega | (and_intros <;> intros <;> and_intros <;> first | omega | assumption | rfl | (simp only [List.length_append, List.length_cons, List.length_nil]; omega) | (have e := take_snoc (L := L) (i := i) (by omega) (by omega); rw [← hi.2.2.2.2] at e; exact e.symm) | (exfalso; have := lget_in (L := L) (i := i) (by omega) (by omega); rw [show lget L i = ((lget L i).1, (lget L i).2) from rfl] at this; simp_all; done) | (rw [hi.2.2.2.1]; simp; done) | (exfalso; have h8 : ((lget L i).1, (lget L i).2) ∉ X := (by rw [hi.2.2.2.2]; exact nodup_take h1.1 (i := i) (by omega) (by omega)); clear hs; first | (simp_all; done) | (simp_all; omega)) | (exfalso; have h8 : ((lget L i).1, (lget L i).2) ∉ X := (by rw [hi.2.2.2.2]; exact nodup_take h1.1 (i := i) (by omega) (by omega)); first | (simp_all; done) | (simp_all; omega)) | (simp at *; omega) | (simp_all; done) | (simp_all; omega))) : P := h
theorem qd1 {P : Prop} (h : P := by first | omega | (and_intros <;> intros <;> and_intros <;> first | omega | assumption | rfl | (simp only [List.length_append, List.length_cons, List.length_nil]; omega) | (have e := take_snoc (L := X) (i := i) (by omega) (by omega); rw [← hi.2.2.2] at e; exact e.symm) | (exfalso; have := lget_map (L := X) (f := fun _ => true) (i := i) (by omega) (by omega); simp_all; done) | (simp at *; omega) | (simp_all; done) | (simp_all; omega))) : P := h
theorem qd2 {P : Prop} (h : P := by first | omega | (and_intros <;> intros <;> and_intros <;> first | omega | assumption | (simp at *; omega) | (simp_all; done) | (simp_all; omega))) : P := h
theorem qd3 {P : Prop} (h : P := by first | omega | (and_intros <;> intros <;> and_intros <;> first | omega | assumption | rfl | (rw [hi.2.2.2, show (i - 1 + 1) = i by omega] ; done) | (simp only [List.length_append, List.length_cons, List.length_nil]; omega) | (have e := first_step (i := i - 1) (by omega); rw [show i - 1 + 1 = i by omega] at e; rw [hi.2.2.2, show i + 1 - 1 = i by omega, e]; done) | (simp at *; omega) | (simp_all; done) | (simp_all; omega))) : P := h
theorem qd4 {P : Prop} (h : P := by first | rfl | rfl) : P := h
theorem qd5 {P : Prop} (h : P := by first | trivial | omega | (and_intros <;> intros <;> and_intros <;> first | trivial | omega | assumption | (simp at *; omega) | (simp_all; done) | (simp_all; omega))) : P := h
theorem qd6 {P : Prop} (h : P := by first | omega | (and_intros <;> intros <;> and_intros <;> first | omega | assumption | exact first_nodup _ | exact first_no0 _ | (rw [first_len]; omega) | (simp at *; omega) | (simp_all; done) | (simp_all; omega))) : P := h
theorem qd7 {P : Prop} (h : P := by first | rfl | (rw [show cutN n = n from (by unfold cutN; omega)]; rfl) | (rw [show cutN n = 0 from (by unfold cutN; omega)]; rfl) | (rw [show cutN n = 1000 from (by unfold cutN; omega)]; rfl)) : P := h
theorem qd8 {P : Prop} (h : P := by first | rfl | (show ((oneS out) : SV) = _; simp_all)) : P := h
theorem qd9 {P : Prop} (h : P := by first | (exact .inl (by omega)) | (refine .inr ?_; have e := lget_in (L := X) (i := i) (by omega) (by omega); rw [show lget X i = (xa, xn) from Prod.ext cd2.1 cd2.2] at e; exact e)) : P := h
theorem first_get {n : Nat} {i : Int} (h0 : 0 ≤ i) (h1 : i < n) : lget (firstIds n) i = (0, i + 1) := by
  obtain ⟨k, rfl⟩ := Int.eq_ofNat_of_zero_le h0
  have hk : k < n := by omega
  simp [lget, firstIds, List.getElem?_map, List.getElem?_range hk]
theorem first_step {i : Int} (h : 0 ≤ i) : firstIds (i + 1).toNat = firstIds i.toNat ++ [((0 : Int), i + 1)] := by
  rw [show (i + 1).toNat = i.toNat + 1 by omega, first_snoc, show ((i.toNat : Nat) : Int) = i by omega]
abbrev w24Q (_Γ : Glob) (n : Int) (l : List Asrt) (Zq : Hp) (vq : SV) (hq : Hp) : Prop := (0 ≤ cutN n ∧ cutN n ≤ 1000) ∧ vq = iV (cutN n) ∧ St Zq (l) hq
theorem w24r (Γ : Glob) [Mute Γ] (n : Int)  {Z0 h : Hp} {l : List Asrt} (hs : St Z0 (l) h) : Runs Tryz.prog Γ (.call 55 [iV n] h) fun oq => ∃ Z', Sub Z0 Z' ∧ w24Q Γ n l Z' oq.v oq.hp := by
  refine sx_fnZ (Γ := Γ) (Q := w24Q Γ n l) Tryz.f55 Tryz.func55 (by kernel_rfl) [I (.v 0)] [] ⟨1, 0, 0, 0, 0, 0⟩ (va { i := [n] }) (.fork (.lt (.v 0) (.z 0)) (.ret (I (.z 0)) []) <| .fork (.lt (.z 1000) (.v 0)) (.ret (I (.z 1000)) []) <| .ret (I (.v 0)) []) 100000 (by kernel_rfl) hs rfl ?_
  refine d_if (fun (cd1 : n < 0) => ?_) (fun (cd1 : ¬ (n < 0)) => ?_)
  · exact d_retZ fun h hs => ⟨by exact cutN_rng n, qd7, hs⟩
  · refine d_if (fun (cd2 : 1000 < n) => ?_) (fun (cd2 : ¬ (1000 < n)) => ?_)
    · exact d_retZ fun h hs => ⟨by exact cutN_rng n, qd7, hs⟩
    · exact d_retZ fun h hs => ⟨by exact cutN_rng n, qd7, hs⟩
abbrev w25Q (_Γ : Glob) (n : Int) (l : List Asrt) (Zq : Hp) (vq : SV) (hq : Hp) : Prop := ∃ v : SV, (True) ∧ vq = (oneS v) ∧ St Zq (lsA 25 2 idE (oneS v) (firstIds (Int.toNat n)) :: l) hq
noncomputable abbrev w25C (Γ : Glob) (n : Int) (Z0 : Hp) (l : List Asrt) : Cx := fnC Tryz.prog Γ Tryz.f54 1 [] (subA Z0 :: l) (PostZ Z0 (w25Q Γ n l))
theorem w25_l1 (Γ : Glob) [Mute Γ] (n : Int) (h1 : 0 ≤ n ∧ n ≤ 1000) {Z0 : Hp} {l : List Asrt} : ∀ (m : Nat) (Z : Hp) (out : SV) (i : Int) (X : List IdL) (_hi : 1 ≤ i ∧ i ≤ n + 1 ∧ (X.length : Int) = i - 1 ∧ X = firstIds (i - 1).toNat) (_hm : (n + 1 - i).toNat < m), den (w25C Γ n Z0 l) (.stop [0, 1, 0, 1, 1] [(0, I (.v 0)), (3, .raw 0), (4, I (.v 1))] [.asr 1]) ⟨2, 0, 0, 1, 0, 2⟩ (va { i := [n, i], r := [out], a := [lsA 25 2 idE (oneS (.lit (.slice none 0 0))) [], lsA 25 2 idE (oneS out) X] }) Z := by
  intro m
  induction m with
  | zero => intros; omega
  | succ m ih =>
    intro Z out i X hi hm
    refine sx_loop [0, 1, 0, 1, 1] [(0, I (.v 0)), (3, .raw 0), (4, I (.v 1))] [.asr 1] [] ⟨2, 0, 0, 1, 0, 2⟩ (.fork (.le (.v 1) (.v 0)) (.new <| .eff (.app [43, 43] (.raw 0) (.slice 0 0 1 1)) [.asr 1, .blk 0 [I (.z 0), I (.v 1)] 25] (.raw 1) [.asr 2] ⟨2, 0, 0, 2, 1, 3⟩ <| .vc (xI (.add (.v 1) (.z 1))) <| .stop [0, 1, 0, 1, 1] [(0, I (.v 0)), (3, .raw 1), (4, I (.add (.v 1) (.z 1)))] [.asr 2]) <| .ret (.raw 0) [.asr 1]) 100000 (by kernel_rfl) (fun _ h => by cases h) ?_
    refine d_if (fun (cd1 : i ≤ n) => ?_) (fun (cd1 : ¬ (i ≤ n)) => ?_)
    · refine d_new fun bk0 => ?_
      refine d_eff (fun (v100 : SV) => { r := [v100], a := [lsA 25 2 idE (oneS v100) (X ++ [(0, i)])] }) (fun _ => True) (fun l h hs => ls_push (m := l) (h := h) rfl idE_info (by decide) hs qd4 rfl rfl qd3) fun v100 _ => ?_
      refine d_vc (show I6 (i + 1) from qd3) ?_
      exact d_stop (ih _ v100 (i + 1) (X ++ [(0, i)]) qd3 qd3) rfl rfl
    · exact d_retZ fun h hs => ⟨out, qd5, qd8, by first | exact hs | (rw [show firstIds n.toNat = X by rw [hi.2.2.2, show (i - 1).toNat = n.toNat by omega]]; exact hs)⟩
theorem w25r (Γ : Glob) [Mute Γ] (n : Int) (h1 : 0 ≤ n ∧ n ≤ 1000) {Z0 h : Hp} {l : List Asrt} (hs : St Z0 (l) h) : Runs Tryz.prog Γ (.call 54 [iV n] h) fun oq => ∃ Z', Sub Z0 Z' ∧ w25Q Γ n l Z' oq.v oq.hp := by
  refine sx_fnZ (Γ := Γ) (Q := w25Q Γ n l) Tryz.f54 Tryz.func54 (by kernel_rfl) [I (.v 0)] [] ⟨1, 0, 0, 0, 0, 0⟩ (va { i := [n] }) (.swap [] [.asr 0] ⟨1, 0, 0, 0, 0, 1⟩ <| .stop [0, 1, 0, 1, 1] [(0, I (.v 0)), (3, .lit (.slice none 0 0)), (4, I (.z 1))] [.asr 0]) 100000 (by kernel_rfl) hs rfl ?_
  refine d_swap (α := Unit) (fun (_ : Unit) => { a := [lsA 25 2 idE (oneS (.lit (.slice none 0 0))) []] }) (fun (_ : Unit) => True) (fun l h hs => ⟨(), ⟨trivial, ls_nil (hs) (m := l) (h := h)⟩⟩) fun _ qs0 => ?_
  exact d_stop (w25_l1 Γ n h1  _ _ (.lit (.slice none 0 0)) 1 ([]) qd3 (Nat.lt_succ_self _)) rfl rfl
abbrev w26Q (_Γ : Glob) (P : Nat) (xa xn : Int) (x y : SV) (X : List IdL) (l : List Asrt) (Zq : Hp) (vq : SV) (hq : Hp) : Prop := ∃ ix : Int, (ix < 0 ∨ (xa, xn) ∈ X) ∧ vq = iV ix ∧ St Zq (own P (.cells [(oneS x), (oneS y)] 201) :: lsA 25 2 idE (oneS x) X :: l) hq
noncomputable abbrev w26C (Γ : Glob) (P : Nat) (xa xn : Int) (x y : SV) (X : List IdL) (Z0 : Hp) (l : List Asrt) : Cx := fnC Tryz.prog Γ Tryz.f105 2 [] (subA Z0 :: l) (PostZ Z0 (w26Q Γ P xa xn x y X l))
theorem w26_l1 (Γ : Glob) [Mute Γ] (P : Nat) (xa xn : Int) (x y : SV) (X : List IdL) (h1 : (X.length : Int) ≤ 1000) (bk1 : Nat) {Z0 : Hp} {l : List Asrt} : ∀ (m : Nat) (Z : Hp) (i : Int) (_hi : 0 ≤ i ∧ i ≤ (X.length : Int)) (_hm : ((X.length : Int) - i).toNat < m), den (w26C Γ P xa xn x y X Z0 l) (.stop [0, 1, 0, 1] [(0, .ptr 0 0), (3, .ptr 1 0), (5, I (.v 2))] zd0) ⟨3, 0, 0, 2, 2, 1⟩ (va { i := [xa, xn, i], r := [x, y], n := [P, bk1], a := [lsA 25 2 idE (oneS x) X] }) Z := by
  intro m
  induction m with
  | zero => intros; omega
  | succ m ih =>
    intro Z i hi hm
    refine sx_loop [0, 1, 0, 1] [(0, .ptr 0 0), (3, .ptr 1 0), (5, I (.v 2))] zd0 [] ⟨3, 0, 0, 2, 2, 1⟩ (.row (.len 43 (.raw 0)) [.asr 0] (I (.v 3)) ⟨4, 0, 0, 2, 2, 1⟩ <| .fork (.lt (.v 2) (.v 3)) (.row (.idxA 43 (.raw 0) (I (.v 2))) [.asr 0] (.raw 2) ⟨4, 0, 0, 3, 2, 1⟩ <| .row (.load 25 (.raw 2)) [.asr 0] (.agg [I (.v 4), I (.v 5)]) ⟨6, 0, 0, 3, 2, 1⟩ <| .fork (.and (.eq (.v 4) (.v 0)) (.eq (.v 5) (.v 1))) (.ret (I (.v 2)) zd5) <| .vc (xI (.add (.v 2) (.z 1))) <| .stop [0, 1, 0, 1] [(0, .ptr 0 0), (3, .ptr 1 0), (5, I (.add (.v 2) (.z 1)))] zd0) <| .ret (I (.z (-1))) zd5) 100000 (by kernel_rfl) (fun _ h => by cases h) ?_
    refine d_row { i := [(X.length : Int)] } True (fun l h hs => ls_len (m := l) (h := h) rfl (fun _ => rfl) hs) fun _ => ?_
    refine d_if (fun (cd1 : i < (X.length : Int)) => ?_) (fun (cd1 : ¬ (i < (X.length : Int))) => ?_)
    · refine d_row { r := [(elP (oneS x) (Int.toNat i * 2))] } True (fun l h hs => ls_idx (m := l) (h := h) (i := i) rfl rfl hs qd2 qd2) fun _ => ?_
      refine d_row { i := [(((lget X i)).1), (((lget X i)).2)] } True (fun l h hs => ls_load (m := l) (h := h) (i := i) rfl rfl hs qd2 qd2) fun _ => ?_
      refine d_if (fun (cd2 : ((((lget X i)).1) = xa) ∧ ((((lget X i)).2) = xn)) => ?_) (fun (cd2 : ¬ (((((lget X i)).1) = xa) ∧ ((((lget X i)).2) = xn))) => ?_)
      · exact d_retZ fun h hs => ⟨i, qd9, by first | rfl | (show (iV i : SV) = _; simp_all), hs⟩
      · refine d_vc (show I6 (i + 1) from qd2) ?_
        exact d_stop (ih _ (i + 1) qd2 qd2) rfl rfl
    · exact d_retZ fun h hs => ⟨(-1), qd9, by first | rfl | (show (iV (-1) : SV) = _; simp_all), hs⟩
theorem w26r (Γ : Glob) [Mute Γ] (P : Nat) (xa xn : Int) (x y : SV) (X : List IdL) (h1 : (X.length : Int) ≤ 1000) {Z0 h : Hp} {l : List Asrt} (hs : St Z0 (own P (.cells [(oneS x), (oneS y)] 201) :: lsA 25 2 idE (oneS x) X :: l) h) : Runs Tryz.prog Γ (.call 105 [.ptr P 0, .agg [iV xa, iV xn]] h) fun oq => ∃ Z', Sub Z0 Z' ∧ w26Q Γ P xa xn x y X l Z' oq.v oq.hp := by
  refine sx_fnZ (Q := w26Q Γ P xa xn x y X l) Tryz.f105 Tryz.func105 (by kernel_rfl) [.ptr 0 0, .agg [I (.v 0), I (.v 1)]] zd5 ⟨2, 0, 0, 2, 1, 1⟩ (va { i := [xa, xn], r := [x, y], n := [P], a := [lsA 25 2 idE (oneS x) X] }) (.new <| .stop [0, 1, 0, 1] [(0, .ptr 0 0), (3, .ptr 1 0), (5, I (.z 0))] zd0) 100000 (by kernel_rfl) hs rfl ?_
  refine d_new fun bk1 => ?_
  exact d_stop (w26_l1 Γ P xa xn x y X h1 bk1 _ _ 0 qd2 (Nat.lt_succ_self _)) rfl rfl
abbrev w27Q (_Γ : Glob) (v : SV) (L : List IdL) (l : List Asrt) (Zq : Hp) (vq : SV) (hq : Hp) : Prop := ∃ P : Nat, ∃ x : SV, ∃ y : SV, (True) ∧ vq = .ptr P 0 ∧ St Zq (lsA 25 2 idE (oneS v) L :: own P (.cells [(oneS x), (oneS y)] 201) :: lsA 25 2 idE (oneS x) L :: lsA 4 1 boE (oneS y) (List.map (fun _ => true) L) :: l) hq
noncomputable abbrev w27C (Γ : Glob) (v : SV) (L : List IdL) (Z0 : Hp) (l : List Asrt) : Cx := fnC Tryz.prog Γ Tryz.f53 1 [] (subA Z0 :: l) (PostZ Z0 (w27Q Γ v L l))
theorem w27_l1 (Γ : Glob) [Mute Γ] (v : SV) (L : List IdL) (h1 : L.Nodup ∧ ((0, 0) : IdL) ∉ L ∧ (L.length : Int) ≤ 1000) (bk0 : Nat) {Z0 : Hp} {l : List Asrt} : ∀ (m : Nat) (Z : Hp) (i : Int) (a0 a1 : SV) (X : List IdL) (Y : List Bool) (_hi : 0 ≤ i ∧ i ≤ (L.length : Int) ∧ (X.length : Int) = i ∧ Y = List.map (fun _ => true) X ∧ X = L.take i.toNat) (_hm : ((L.length : Int) - i).toNat < m), den (w27C Γ v L Z0 l) (.stop [0, 1, 0, 1, 1] [(0, .raw 0), (3, .ptr 0 0), (4, I (.v 0))] zd2) ⟨1, 0, 0, 3, 1, 5⟩ (va { i := [i], r := [v, a0, a1], n := [bk0], a := [lsA 25 2 idE (oneS v) L, lsA 25 2 idE (oneS (.lit (.slice none 0 0))) [], lsA 4 1 boE (oneS (.lit (.slice none 0 0))) [], lsA 25 2 idE (oneS a0) X, lsA 4 1 boE (oneS a1) Y] }) Z := by
  intro m
  induction m with
  | zero => intros; omega
  | succ m ih =>
    intro Z i a0 a1 X Y hi hm
    refine sx_loop [0, 1, 0, 1, 1] [(0, .raw 0), (3, .ptr 0 0), (4, I (.v 0))] zd2 [] ⟨1, 0, 0, 3, 1, 5⟩ (.row (.len 43 (.raw 0)) [.asr 0] (I (.v 1)) ⟨2, 0, 0, 3, 1, 5⟩ <| .fork (.lt (.v 0) (.v 1)) (.row (.idxA 43 (.raw 0) (I (.v 0))) [.asr 0] (.raw 3) ⟨2, 0, 0, 4, 1, 5⟩ <| .row (.load 25 (.raw 3)) [.asr 0] (.agg [I (.v 2), I (.v 3)]) ⟨4, 0, 0, 4, 1, 5⟩ <| .fork (.and (.eq (.v 2) (.z 0)) (.eq (.v 3) (.z 0))) (.vc (xI (.add (.v 0) (.z 1))) <| .stop [0, 1, 0, 1, 1] zd1 zd2) <| .row (.idxA 43 (.raw 0) (I (.v 0))) [.asr 0] (.raw 4) ⟨4, 0, 0, 5, 1, 5⟩ <| .row (.load 25 (.raw 4)) [.asr 0] (.agg [I (.v 4), I (.v 5)]) ⟨6, 0, 0, 5, 1, 5⟩ <| .call 105 [.ptr 0 0, .agg [I (.v 4), I (.v 5)]] [.blk 0 [.raw 1, .raw 2] 201, .asr 3] (I (.v 6)) [.blk 0 [.raw 5, .raw 6] 201, .asr 5] ⟨7, 0, 0, 7, 1, 6⟩ <| .fork (.lt (.v 6) (.z 0)) (.row (.len 43 (.raw 5)) [.asr 5] (I (.v 7)) ⟨8, 0, 0, 7, 1, 6⟩ <| .fork (.lt (.v 7) (.z 1000)) (.row (.idxA 43 (.raw 0) (I (.v 0))) [.asr 0] (.raw 7) ⟨8, 0, 0, 8, 1, 6⟩ <| .row (.load 25 (.raw 7)) [.asr 0] (.agg [I (.v 8), I (.v 9)]) ⟨10, 0, 0, 8, 1, 6⟩ <| .new <| .eff (.app [43, 43] (.raw 5) (.slice 1 0 1 1)) [.asr 5, .blk 1 [I (.v 8), I (.v 9)] 25] (.raw 8) [.asr 6] ⟨10, 0, 0, 9, 2, 7⟩ <| .new <| .eff (.app [199, 199] (.raw 6) (.slice 2 0 1 1)) [.asr 4, .blk 2 [.bool (.bl true)] 4] (.raw 9) [.asr 7] ⟨10, 0, 0, 10, 3, 8⟩ <| .vc (xI (.add (.v 0) (.z 1))) <| .stop [0, 1, 0, 1, 1] zd1 [.asr 7, .asr 6, .blk 0 [.raw 8, .raw 9] 201, .asr 0]) <| .vc (xI (.add (.v 0) (.z 1))) <| .stop [0, 1, 0, 1, 1] zd1 zd3) <| .vc (xI (.add (.v 0) (.z 1))) <| .stop [0, 1, 0, 1, 1] zd1 zd3) <| .ret (.ptr 0 0) [.asr 0, .blk 0 [.raw 1, .raw 2] 201, .asr 3, .asr 4]) 100000 (by kernel_rfl) (fun _ h => by cases h) ?_
    refine d_row { i := [(L.length : Int)] } True (fun l h hs => ls_len (m := l) (h := h) rfl (fun _ => rfl) hs) fun _ => ?_
    refine d_if (fun (cd1 : i < (L.length : Int)) => ?_) (fun (cd1 : ¬ (i < (L.length : Int))) => ?_)
    · refine d_row { r := [(elP (oneS v) (Int.toNat i * 2))] } True (fun l h hs => ls_idx (m := l) (h := h) (i := i) rfl rfl hs qd0 qd0) fun _ => ?_
      refine d_row { i := [(((lget L i)).1), (((lget L i)).2)] } True (fun l h hs => ls_load (m := l) (h := h) (i := i) rfl rfl hs qd0 qd0) fun _ => ?_
      refine d_if (fun (cd2 : ((((lget L i)).1) = 0) ∧ ((((lget L i)).2) = 0)) => ?_) (fun (cd2 : ¬ (((((lget L i)).1) = 0) ∧ ((((lget L i)).2) = 0))) => ?_)
      · refine d_vc (show I6 (i + 1) from qd0) ?_
        exact d_stop (ih _ (i + 1) a0 a1 X Y qd0 qd0) rfl rfl
      · refine d_row { r := [(elP (oneS v) (Int.toNat i * 2))] } True (fun l h hs => ls_idx (m := l) (h := h) (i := i) rfl rfl hs qd0 qd0) fun _ => ?_
        refine d_row { i := [(((lget L i)).1), (((lget L i)).2)] } True (fun l h hs => ls_load (m := l) (h := h) (i := i) rfl rfl hs qd0 qd0) fun _ => ?_
        refine d_call (α := Int) (fun (ix100 : Int) => { i := [ix100], r := [a0, a1], a := [lsA 25 2 idE (oneS a0) X] }) (fun (ix100 : Int) => ix100 < 0 ∨ ((((lget L i)).1), (((lget L i)).2)) ∈ X) (fun l h hs => w26r (h := h) (l := l) Γ bk0 (((lget L i)).1) (((lget L i)).2) a0 a1 X qd0 hs) fun Z ix100 qd100 => ?_
        refine d_if (fun (cd3 : ix100 < 0) => ?_) (fun (cd3 : ¬ (ix100 < 0)) => ?_)
        · refine d_row { i := [(X.length : Int)] } True (fun l h hs => ls_len (m := l) (h := h) rfl (fun _ => rfl) hs) fun _ => ?_
          refine d_if (fun (cd4 : (X.length : Int) < 1000) => ?_) (fun (cd4 : ¬ ((X.length : Int) < 1000)) => ?_)
          · refine d_row { r := [(elP (oneS v) (Int.toNat i * 2))] } True (fun l h hs => ls_idx (m := l) (h := h) (i := i) rfl rfl hs qd0 qd0) fun _ => ?_
            refine d_row { i := [(((lget L i)).1), (((lget L i)).2)] } True (fun l h hs => ls_load (m := l) (h := h) (i := i) rfl rfl hs qd0 qd0) fun _ => ?_
            refine d_new fun bk1 => ?_
            refine d_eff (fun (v101 : SV) => { r := [v101], a := [lsA 25 2 idE (oneS v101) (X ++ [((((lget L i)).1), (((lget L i)).2))])] }) (fun _ => True) (fun l h hs => ls_push (m := l) (h := h) rfl idE_info (by decide) hs qd4 rfl rfl qd0) fun v101 _ => ?_
            refine d_new fun bk2 => ?_
            refine d_eff (fun (v102 : SV) => { r := [v102], a := [lsA 4 1 boE (oneS v102) (Y ++ [true])] }) (fun _ => True) (fun l h hs => ls_push (m := l) (h := h) rfl boE_info (by decide) hs qd4 rfl rfl qd0) fun v102 _ => ?_
            refine d_vc (show I6 (i + 1) from qd0) ?_
            exact d_stop (ih _ (i + 1) v101 v102 (X ++ [((((lget L i)).1), (((lget L i)).2))]) (Y ++ [true]) qd0 qd0) rfl rfl
          · refine d_vc (show I6 (i + 1) from qd0) ?_
            exact d_stop (ih _ (i + 1) a0 a1 X Y qd0 qd0) rfl rfl
        · refine d_vc (show I6 (i + 1) from qd0) ?_
          exact d_stop (ih _ (i + 1) a0 a1 X Y qd0 qd0) rfl rfl
    · exact d_retZ fun h hs => ⟨bk0, a0, a1, qd5, by first | rfl | (show (.ptr bk0 0 : SV) = _; simp_all), by first | exact hs | (have e : X = L := (by rw [hi.2.2.2.2, List.take_of_length_le (by omega)]); have e2 := hi.2.2.2.1; subst e2; subst e; exact hs)⟩
theorem w27r (Γ : Glob) [Mute Γ] (v : SV) (L : List IdL) (h1 : L.Nodup ∧ ((0, 0) : IdL) ∉ L ∧ (L.length : Int) ≤ 1000) {Z0 h : Hp} {l : List Asrt} (hs : St Z0 (lsA 25 2 idE (oneS v) L :: l) h) : Runs Tryz.prog Γ (.call 53 [(oneS v)] h) fun oq => ∃ Z', Sub Z0 Z' ∧ w27Q Γ v L l Z' oq.v oq.hp := by
  refine sx_fnZ (Q := w27Q Γ v L l) Tryz.f53 Tryz.func53 (by kernel_rfl) [.raw 0] [.asr 0] ⟨0, 0, 0, 1, 0, 1⟩ (va { r := [v], a := [lsA 25 2 idE (oneS v) L] }) (.new <| .swap [] [.asr 1] ⟨0, 0, 0, 1, 1, 2⟩ <| .swap [] [.asr 2] ⟨0, 0, 0, 1, 1, 3⟩ <| .stop [0, 1, 0, 1, 1] [(0, .raw 0), (3, .ptr 0 0), (4, I (.z 0))] [.asr 2, .asr 1, .blk 0 [.lit (.slice none 0 0), .lit (.slice none 0 0)] 201, .asr 0]) 100000 (by kernel_rfl) hs rfl ?_
  refine d_new fun bk0 => ?_
  refine d_swap (α := Unit) (fun (_ : Unit) => { a := [lsA 25 2 idE (oneS (.lit (.slice none 0 0))) []] }) (fun (_ : Unit) => True) (fun l h hs => ⟨(), ⟨trivial, ls_nil (hs) (m := l) (h := h)⟩⟩) fun _ qs0 => ?_
  refine d_swap (α := Unit) (fun (_ : Unit) => { a := [lsA 4 1 boE (oneS (.lit (.slice none 0 0))) []] }) (fun (_ : Unit) => True) (fun l h hs => ⟨(), ⟨trivial, ls_nil (hs) (m := l) (h := h)⟩⟩) fun _ qs1 => ?_
  exact d_stop (w27_l1 Γ v L h1 bk0 _ _ 0 (.lit (.slice none 0 0)) (.lit (.slice none 0 0)) ([]) ([]) qd0 (Nat.lt_succ_self _)) rfl rfl
abbrev w28Q (_Γ : Glob) (P : Nat) (x y : SV) (X : List IdL) (l : List Asrt) (Zq : Hp) (vq : SV) (hq : Hp) : Prop := ∃ o : SV, (True) ∧ vq = (oneS o) ∧ St Zq (own P (.cells [(oneS x), (oneS y)] 201) :: lsA 25 2 idE (oneS x) X :: lsA 4 1 boE (oneS y) (List.map (fun _ => true) X) :: lsA 25 2 idE (oneS o) X :: l) hq
noncomputable abbrev w28C (Γ : Glob) (P : Nat) (x y : SV) (X : List IdL) (Z0 : Hp) (l : List Asrt) : Cx := fnC Tryz.prog Γ Tryz.f48 1 [] (subA Z0 :: l) (PostZ Z0 (w28Q Γ P x y X l))
theorem w28_l1 (Γ : Glob) [Mute Γ] (P : Nat) (x y : SV) (X : List IdL) (h1 : (X.length : Int) ≤ 1000) {Z0 : Hp} {l : List Asrt} : ∀ (m : Nat) (Z : Hp) (out : SV) (i : Int) (W : List IdL) (_hi : 0 ≤ i ∧ i ≤ (X.length : Int) ∧ (W.length : Int) = i ∧ W = X.take i.toNat) (_hm : ((X.length : Int) - i).toNat < m), den (w28C Γ P x y X Z0 l) (.stop [0, 1, 0, 1, 1] [(0, .ptr 0 0), (3, .raw 2), (4, I (.v 0))] zd4) ⟨1, 0, 0, 3, 1, 4⟩ (va { i := [i], r := [x, y, out], n := [P], a := [lsA 25 2 idE (oneS x) X, lsA 4 1 boE (oneS y) (List.map (fun _ => true) X), lsA 25 2 idE (oneS (.lit (.slice none 0 0))) [], lsA 25 2 idE (oneS out) W] }) Z := by
  intro m
  induction m with
  | zero => intros; omega
  | succ m ih =>
    intro Z out i W hi hm
    refine sx_loop [0, 1, 0, 1, 1] [(0, .ptr 0 0), (3, .raw 2), (4, I (.v 0))] zd4 [] ⟨1, 0, 0, 3, 1, 4⟩ (.row (.len 43 (.raw 0)) [.asr 0] (I (.v 1)) ⟨2, 0, 0, 3, 1, 4⟩ <| .fork (.lt (.v 0) (.v 1)) (.row (.idxA 199 (.raw 1) (I (.v 0))) [.asr 1] (.raw 3) ⟨2, 0, 0, 4, 1, 4⟩ <| .row (.load 4 (.raw 3)) [.asr 1] (.bool (.bv 0)) ⟨2, 0, 1, 4, 1, 4⟩ <| .fork (.bv 0) (.row (.idxA 43 (.raw 0) (I (.v 0))) [.asr 0] (.raw 4) ⟨2, 0, 1, 5, 1, 4⟩ <| .row (.load 25 (.raw 4)) [.asr 0] (.agg [I (.v 2), I (.v 3)]) ⟨4, 0, 1, 5, 1, 4⟩ <| .new <| .eff (.app [43, 43] (.raw 2) (.slice 1 0 1 1)) [.asr 3, .blk 1 [I (.v 2), I (.v 3)] 25] (.raw 5) [.asr 4] ⟨4, 0, 1, 6, 2, 5⟩ <| .vc (xI (.add (.v 0) (.z 1))) <| .stop [0, 1, 0, 1, 1] [(0, .ptr 0 0), (3, .raw 5), (4, I (.add (.v 0) (.z 1)))] [.asr 4, .blk 0 [.raw 0, .raw 1] 201, .asr 0, .asr 1]) <| .vc (xI (.add (.v 0) (.z 1))) <| .stop [0, 1, 0, 1, 1] [(0, .ptr 0 0), (3, .raw 2), (4, I (.add (.v 0) (.z 1)))] zd4) <| .ret (.raw 2) [.blk 0 [.raw 0, .raw 1] 201, .asr 0, .asr 1, .asr 3]) 100000 (by kernel_rfl) (fun _ h => by cases h) ?_
    refine d_row { i := [(X.length : Int)] } True (fun l h hs => ls_len (m := l) (h := h) rfl (fun _ => rfl) hs) fun _ => ?_
    refine d_if (fun (cd1 : i < (X.length : Int)) => ?_) (fun (cd1 : ¬ (i < (X.length : Int))) => ?_)
    · refine d_row { r := [(elP (oneS y) (Int.toNat i * 1))] } True (fun l h hs => ls_idx (m := l) (h := h) (i := i) rfl rfl hs qd1 qd1) fun _ => ?_
      refine d_row { b := [(lget (List.map (fun _ => true) X) i)] } True (fun l h hs => ls_load1 (m := l) (h := h) (i := i) rfl rfl hs qd1 qd1 rfl) fun _ => ?_
      refine d_if (fun (cd2 : (lget (List.map (fun _ => true) X) i) = true) => ?_) (fun (cd2 : ¬ ((lget (List.map (fun _ => true) X) i) = true)) => ?_)
      · refine d_row { r := [(elP (oneS x) (Int.toNat i * 2))] } True (fun l h hs => ls_idx (m := l) (h := h) (i := i) rfl rfl hs qd1 qd1) fun _ => ?_
        refine d_row { i := [(((lget X i)).1), (((lget X i)).2)] } True (fun l h hs => ls_load (m := l) (h := h) (i := i) rfl rfl hs qd1 qd1) fun _ => ?_
        refine d_new fun bk1 => ?_
        refine d_eff (fun (v100 : SV) => { r := [v100], a := [lsA 25 2 idE (oneS v100) (W ++ [((((lget X i)).1), (((lget X i)).2))])] }) (fun _ => True) (fun l h hs => ls_push (m := l) (h := h) rfl idE_info (by decide) hs qd4 rfl rfl qd1) fun v100 _ => ?_
        refine d_vc (show I6 (i + 1) from qd1) ?_
        exact d_stop (ih _ v100 (i + 1) (W ++ [((((lget X i)).1), (((lget X i)).2))]) qd1 qd1) rfl rfl
      · refine d_vc (show I6 (i + 1) from qd1) ?_
        exact d_stop (ih _ out (i + 1) W qd1 qd1) rfl rfl
    · exact d_retZ fun h hs => ⟨out, qd5, qd8, by first | exact hs | (have e : W = X := (by rw [hi.2.2.2, List.take_of_length_le (by omega)]); subst e; exact hs)⟩
theorem w28r (Γ : Glob) [Mute Γ] (P : Nat) (x y : SV) (X : List IdL) (h1 : (X.length : Int) ≤ 1000) {Z0 h : Hp} {l : List Asrt} (hs : St Z0 (own P (.cells [(oneS x), (oneS y)] 201) :: lsA 25 2 idE (oneS x) X :: lsA 4 1 boE (oneS y) (List.map (fun _ => true) X) :: l) h) : Runs Tryz.prog Γ (.call 48 [.ptr P 0] h) fun oq => ∃ Z', Sub Z0 Z' ∧ w28Q Γ P x y X l Z' oq.v oq.hp := by
  refine sx_fnZ (Q := w28Q Γ P x y X l) Tryz.f48 Tryz.func48 (by kernel_rfl) [.ptr 0 0] [.blk 0 [.raw 0, .raw 1] 201, .asr 0, .asr 1] ⟨0, 0, 0, 2, 1, 2⟩ (va { r := [x, y], n := [P], a := [lsA 25 2 idE (oneS x) X, lsA 4 1 boE (oneS y) (List.map (fun _ => true) X)] }) (.swap [] [.asr 2] ⟨0, 0, 0, 2, 1, 3⟩ <| .stop [0, 1, 0, 1, 1] [(0, .ptr 0 0), (3, .lit (.slice none 0 0)), (4, I (.z 0))] [.asr 2, .blk 0 [.raw 0, .raw 1] 201, .asr 0, .asr 1]) 100000 (by kernel_rfl) hs rfl ?_
  refine d_swap (α := Unit) (fun (_ : Unit) => { a := [lsA 25 2 idE (oneS (.lit (.slice none 0 0))) []] }) (fun (_ : Unit) => True) (fun l h hs => ⟨(), ⟨trivial, ls_nil (hs) (m := l) (h := h)⟩⟩) fun _ qs0 => ?_
  exact d_stop (w28_l1 Γ P x y X h1  _ _ (.lit (.slice none 0 0)) 0 ([]) qd1 (Nat.lt_succ_self _)) rfl rfl
abbrev w29Q (_Γ : Glob) (r c : Int) (l : List Asrt) (Zq : Hp) (vq : SV) (hq : Hp) : Prop := ∃ W : Nat, ∃ U : Nat, ∃ V : Nat, ∃ x1 : SV, ∃ y1 : SV, ∃ x2 : SV, ∃ y2 : SV, (True) ∧ vq = .ptr W 0 ∧ St Zq (own W (.cells [.ptr U 0, .ptr V 0, .lit (.slice none 0 0), .lit (.slice none 0 0)] 133) :: own U (.cells [(oneS x1), (oneS y1)] 201) :: lsA 25 2 idE (oneS x1) (firstIds (Int.toNat (cutN r))) :: lsA 4 1 boE (oneS y1) (List.map (fun _ => true) (firstIds (Int.toNat (cutN r)))) :: own V (.cells [(oneS x2), (oneS y2)] 201) :: lsA 25 2 idE (oneS x2) (firstIds (Int.toNat (cutN c))) :: lsA 4 1 boE (oneS y2) (List.map (fun _ => true) (firstIds (Int.toNat (cutN c)))) :: l) hq
theorem w29r (Γ : Glob) [Mute Γ] (r c : Int)  {Z0 h : Hp} {l : List Asrt} (hs : St Z0 (l) h) : Runs Tryz.prog Γ (.call 20 [iV r, iV c] h) fun oq => ∃ Z', Sub Z0 Z' ∧ w29Q Γ r c l Z' oq.v oq.hp := by
  refine sx_fnZ (Γ := Γ) (Q := w29Q Γ r c l) Tryz.f20 Tryz.func20 (by kernel_rfl) [I (.v 0), I (.v 1)] [] ⟨2, 0, 0, 0, 0, 0⟩ (va { i := [r, c] }) (.call 55 [I (.v 0)] [] (I (.v 2)) [] ⟨3, 0, 0, 0, 0, 0⟩ <| .call 54 [I (.v 2)] [] (.raw 0) [.asr 0] ⟨3, 0, 0, 1, 0, 1⟩ <| .call 53 [.raw 0] [.asr 0] (.ptr 0 0) [.asr 1, .blk 0 [.raw 1, .raw 2] 201, .asr 2, .asr 3] ⟨3, 0, 0, 3, 1, 4⟩ <| .call 55 [I (.v 1)] [] (I (.v 3)) [] ⟨4, 0, 0, 3, 1, 4⟩ <| .call 54 [I (.v 3)] [] (.raw 3) [.asr 4] ⟨4, 0, 0, 4, 1, 5⟩ <| .call 53 [.raw 3] [.asr 4] (.ptr 1 0) [.asr 5, .blk 1 [.raw 4, .raw 5] 201, .asr 6, .asr 7] ⟨4, 0, 0, 6, 2, 8⟩ <| .new <| .ret (.ptr 2 0) [.blk 2 [.ptr 0 0, .ptr 1 0, .lit (.slice none 0 0), .lit (.slice none 0 0)] 133, .blk 0 [.raw 1, .raw 2] 201, .asr 2, .asr 3, .blk 1 [.raw 4, .raw 5] 201, .asr 6, .asr 7]) 100000 (by kernel_rfl) hs rfl ?_
  refine d_call (α := Unit) (fun (_ : Unit) => { i := [(cutN r)] }) (fun (_ : Unit) => 0 ≤ cutN r ∧ cutN r ≤ 1000) (fun l h hs => (w24r (h := h) (l := l) Γ r  hs).mono fun _ ⟨Z1, z1, hq_, he_, hs_⟩ => ⟨Z1, z1, (), hq_, he_, hs_⟩) fun Z _ qd0 => ?_
  refine d_call (α := SV) (fun (v1 : SV) => { r := [v1], a := [lsA 25 2 idE (oneS v1) (firstIds (Int.toNat (cutN r)))] }) (fun (v1 : SV) => True) (fun l h hs => w25r (h := h) (l := l) Γ (cutN r) qd6 hs) fun Z v1 qd1 => ?_
  refine d_call (α := Nat × SV × SV) (fun (⟨P2, x2, y2⟩ : Nat × SV × SV) => { r := [x2, y2], n := [P2], a := [lsA 25 2 idE (oneS v1) (firstIds (Int.toNat (cutN r))), lsA 25 2 idE (oneS x2) (firstIds (Int.toNat (cutN r))), lsA 4 1 boE (oneS y2) (List.map (fun _ => true) (firstIds (Int.toNat (cutN r))))] }) (fun (⟨P2, x2, y2⟩ : Nat × SV × SV) => True) (fun l h hs => (w27r (h := h) (l := l) Γ v1 (firstIds (Int.toNat (cutN r))) qd6 hs).mono fun _ ⟨Z1, z1, P2, x2, y2, hq_, he_, hs_⟩ => ⟨Z1, z1, ⟨P2, x2, y2⟩, hq_, he_, hs_⟩) fun Z ⟨P2, x2, y2⟩ qd2 => ?_
  refine d_call (α := Unit) (fun (_ : Unit) => { i := [(cutN c)] }) (fun (_ : Unit) => 0 ≤ cutN c ∧ cutN c ≤ 1000) (fun l h hs => (w24r (h := h) (l := l) Γ c  hs).mono fun _ ⟨Z1, z1, hq_, he_, hs_⟩ => ⟨Z1, z1, (), hq_, he_, hs_⟩) fun Z _ qd3 => ?_
  refine d_call (α := SV) (fun (v4 : SV) => { r := [v4], a := [lsA 25 2 idE (oneS v4) (firstIds (Int.toNat (cutN c)))] }) (fun (v4 : SV) => True) (fun l h hs => w25r (h := h) (l := l) Γ (cutN c) qd6 hs) fun Z v4 qd4 => ?_
  refine d_call (α := Nat × SV × SV) (fun (⟨P5, x5, y5⟩ : Nat × SV × SV) => { r := [x5, y5], n := [P5], a := [lsA 25 2 idE (oneS v4) (firstIds (Int.toNat (cutN c))), lsA 25 2 idE (oneS x5) (firstIds (Int.toNat (cutN c))), lsA 4 1 boE (oneS y5) (List.map (fun _ => true) (firstIds (Int.toNat (cutN c))))] }) (fun (⟨P5, x5, y5⟩ : Nat × SV × SV) => True) (fun l h hs => (w27r (h := h) (l := l) Γ v4 (firstIds (Int.toNat (cutN c))) qd6 hs).mono fun _ ⟨Z1, z1, P5, x5, y5, hq_, he_, hs_⟩ => ⟨Z1, z1, ⟨P5, x5, y5⟩, hq_, he_, hs_⟩) fun Z ⟨P5, x5, y5⟩ qd5 => ?_
  refine d_new fun bk2 => ?_
  exact d_retZ fun h hs => ⟨bk2, P2, P5, x2, y2, x5, y5, qd5, by first | rfl | (show (.ptr bk2 0 : SV) = _; simp_all), hs⟩
end Go.Proofs.YtdhmljjpiainnaaGreatDoor.Sx
