/-
  SHARED AXES with first ids alone, by certificate; by the author of this claim. | A WRITER that there isn't, and a new one, by certificate; by the author of this claim.
-/
import Derived.Test.YtdhmljjpiainnaaGreatDoorShGC
namespace Go.Proofs.YtdhmljjpiainnaaGreatDoor.Sx
open Go Go.Proofs.YtdhmljjpiainnaaGreatDoor.Ev
set_option maxRecDepth 20000
set_option maxHeartbeats 4000000
abbrev zf0 : List MI := [.asr 10, .asr 11, .blk 7 [.raw 1, .map 5, .map 4, .lit (.slice none 0 0), .map 6] 306, .asr 8, .asr 9, .asr 6, .asr 7, .asr 4, .asr 5, .blk 0 [.raw 0, .map 1, .map 2, .lit (.slice none 0 0), .map 3] 306, .obj 4 (.map [] 0)]
abbrev zf1 : List MI := [.blk 4 [.ptr 0 0] 214, .blk 0 [.raw 2, .map 1, .map 2, .lit (.slice none 0 0), .map 3] 306, .asr 7, .blk 6 [.fn 252 [] [.ptr 4 0, .ptr 5 0, .ptr 6 0]] 381, .blk 5 [.raw 3] 43, .asr 6, .asr 0, .asr 1, .asr 3]
abbrev zf2 : List MI := [.blk 7 [I (.v 0), I (.v 1)] 25, .blk 0 [.ptr 3 0] 214, .blk 3 [.raw 0, .map 4, .map 5, .lit (.slice none 0 0), .map 6] 306, .asr 0]
abbrev zf3 : List MI := [.blk 0 [.lit (.slice none 0 0), .lit (.map none), .lit (.map none), .lit (.slice none 0 0), .lit (.map none)] 306]
abbrev zf4 : List MI := [.asr 5, .blk 0 [.raw 1, .map 1, .map 2, .lit (.slice none 0 0), .map 3] 306, .asr 6, .asr 2, .asr 3, .asr 0]
abbrev zf5 : List MI := [.blk 0 [.raw 0, .map 1, .map 2, .lit (.slice none 0 0), .map 3] 306, .asr 0, .asr 1, .asr 2, .asr 3]
abbrev zf6 : List MI := [.blk 0 [.ptr 3 0] 214, .blk 3 [.raw 0, .map 4, .map 5, .lit (.slice none 0 0), .map 6] 306, .asr 0]
abbrev zf7 : List (Nat × XV) := [(2, .ptr 1 0), (3, .ptr 2 0), (12, .lit (.slice none 0 0)), (13, I (.z 0)), (14, I (.z 0))]
abbrev zf8 : List (Nat × XV) := [(3, .ptr 5 0), (4, .ptr 6 0), (22, .raw 2), (23, I (.v 1)), (24, I (.v 2))]
abbrev zf9 : List (Nat × XV) := [(3, .ptr 0 0), (12, .raw 0), (13, I (.v 0)), (14, I (.add (.v 1) (.z 1)))]
abbrev zf10 : List XV := [.lit (.slice none 0 0), .map 1, .map 2, .lit (.slice none 0 0), .map 3]
abbrev zf11 : List (Nat × XV) := [(3, .ptr 0 0), (12, .raw 0), (13, I (.v 0)), (14, I (.v 1))]
abbrev zf12 : List XV := [.raw 2, .map 1, .map 2, .lit (.slice none 0 0), .map 3]
abbrev zf13 : List XV := [.raw 6, .map 1, .map 2, .lit (.slice none 0 0), .map 3]
abbrev zf14 : List XV := [.raw 0, .map 1, .map 2, .lit (.slice none 0 0), .map 3]
abbrev zf15 : List (Nat × XV) := [(3, .ptr 7 0), (36, .ptr 8 0)]
theorem qf0 {P : Prop} (h : P := by first | omega | (and_intros <;> intros <;> and_intros <;> first | omega | assumption | rfl | (simp only [List.length_append, List.length_cons, List.length_nil]; omega) | (have e := take_snoc (L := L) (i := i) (by omega) (by omega); rw [← hi.2.2.2.1] at e; exact e.symm) | (rw [hi.2.2.2.2]; have h8 : ((lget L i).1, (lget L i).2) ∉ X := (by rw [hi.2.2.2.1]; exact nodup_take h1.1 (i := i) (by omega) (by omega)); exact there_set h8) | (exfalso; have := lget_in (L := L) (i := i) (by omega) (by omega); rw [show lget L i = ((lget L i).1, (lget L i).2) from rfl] at this; simp_all; done) | (exfalso; have h8 : ((lget L i).1, (lget L i).2) ∉ X := (by rw [hi.2.2.2.1]; exact nodup_take h1.1 (i := i) (by omega) (by omega)); have h9 := there_has h8; rw [← hi.2.2.2.2] at h9; clear hs; simp_all; done) | (exfalso; have h8 : ((lget L i).1, (lget L i).2) ∉ X := (by rw [hi.2.2.2.1]; exact nodup_take h1.1 (i := i) (by omega) (by omega)); have h9 := there_has h8; rw [← hi.2.2.2.2] at h9; simp_all; done) | (simp at *; omega) | (simp_all; done) | (simp_all; omega))) : P := h
theorem qf1 {P : Prop} (h : P := by first | omega | (and_intros <;> intros <;> and_intros <;> first | omega | assumption | rfl | (simp only [thereOf, List.length_map]; omega) | (have e := take_snoc (L := L) (i := i) (by omega) (by omega); rw [← hi.2.2.2] at e; exact e.symm) | (simp only [List.length_append, List.length_cons, List.length_nil]; omega) | (simp at *; omega) | (simp_all; done) | (simp_all; omega))) : P := h
theorem qf2 {P : Prop} (h : P := by first | trivial | omega | (and_intros <;> intros <;> and_intros <;> first | trivial | omega | assumption | (simp at *; omega) | (simp_all; done) | (simp_all; omega))) : P := h
theorem qf3 {P : Prop} (h : P := by first | rfl | (show (.tuple [] : SV) = _; simp_all)) : P := h
theorem qf4 {P : Prop} (h : P := by first | rfl | rfl) : P := h
theorem qf5 {P : Prop} (h : P := by first | omega | (and_intros <;> intros <;> and_intros <;> first | omega | assumption | exact ids_len _ | exact liv_len _ | (simp at *; omega) | (simp_all; done) | (simp_all; omega))) : P := h
def SlV := SV
instance : Inhabited SlV := ⟨(.lit (.slice none 0 0) : SV)⟩
def slE (v : SlV) : SV := v
def thereOf (L : List IdL) : List (IdL × Bool) := L.map fun x => (x, false)
theorem there_none {L : List IdL} {k : IdL} (h : k ∉ L) : mgetO (thereOf L) k = none := by
  induction L with
  | nil => rfl
  | cons a l ih =>
    rw [thereOf, List.map_cons, mgetO, if_neg (by intro e; rw [e] at h; exact h List.mem_cons_self)]
    exact ih fun hh => h (List.mem_cons_of_mem _ hh)
theorem there_has {L : List IdL} {k : IdL} (h : k ∉ L) : mhas (thereOf L) k = false := by rw [mhas, there_none h]; rfl
theorem there_set {L : List IdL} {k : IdL} (h : k ∉ L) : mset (thereOf L) k false = thereOf (L ++ [k]) := by
  rw [mset_is, mset_new (there_none h), thereOf, thereOf, List.map_append]
  rfl
theorem there_get (L : List IdL) (k : IdL) : mget (thereOf L) k = false := by
  rw [mget]
  induction L with
  | nil => rfl
  | cons a l ih =>
    rw [thereOf, List.map_cons, mgetO]
    split
    · rfl
    · exact ih
section
variable {P : Program} {Γ : Glob} {Z h : Hp} {m : List Asrt} {e : TypeId} {size : Nat} {α : Type} {enc : α → List SV}
theorem ls_makec {t : TypeId} {n : Int} {z : Value} (ht : tyU P t = some (.slice e)) (hi : ∃ i, P.info? e = some i ∧ i.zero = some z ∧ i.size = size ∧ i.bytes ≤ 16) (hz : (SV.cells (.lit z)).length = size) (h0 : 0 ≤ n) (h1 : n ≤ 50000) (hs : 0 < size) (s : St Z m h) :
    ∃ v H, val (makeSliceE P h t (iV 0) (iV n)) = some [(oneS v, H)] ∧ h.next ≤ H.next ∧ True ∧ St Z (lsA e size enc (oneS v) [] :: m) H := by
  obtain ⟨i, hi, hz', his, hb⟩ := hi
  subst his
  obtain ⟨k, rfl⟩ := Int.eq_ofNat_of_zero_le h0
  have hk : k ≤ 50000 := by omega
  have hc : (Nat.ble 0 k && Nat.ble (i.bytes * k) 1048576 && Nat.ble k 1048576 && Nat.beq (SV.cells (.lit z)).length i.size) = true := by
    have : i.bytes * k ≤ 16 * 50000 := Nat.mul_le_mul hb hk
    rw [Nat.ble_eq_true_of_le (Nat.zero_le k), Nat.ble_eq_true_of_le (show i.bytes * k ≤ 1048576 by omega), Nat.ble_eq_true_of_le (show k ≤ 1048576 by omega), beqN hz]
    rfl
  have hv : oneS (.slice h.next 0 0 k) = .slice h.next 0 0 k := oneS_of rfl (by simp only [SV.same, beq_self_eq_true, Bool.and_self])
  have hcs : (bif Nat.beq (k * i.size) 0 then [] else repeatL (SV.cells (.lit z)) k) = (List.replicate k (SV.cells (.lit z))).flatten := by
    rw [← repeat_flat]
    by_cases hk0 : k = 0
    · subst hk0; rw [Nat.zero_mul]; rfl
    · rw [beqF (show k * i.size ≠ 0 from Nat.ne_of_gt (Nat.mul_pos (Nat.pos_of_ne_zero hk0) hs))]; rfl
  refine ⟨.slice h.next 0 0 k, ⟨h.objs.set h.next (.cells (List.replicate k (SV.cells (.lit z))).flatten e), h.next + 1⟩, ?_, Nat.le_succ _, trivial, ?_⟩
  · rw [hv]
    have : makeSliceE P h t (.lit (.int .i64 (Int.ofNat 0))) (.lit (.int .i64 (Int.ofNat k))) = some (.slice h.next 0 0 k, ⟨h.objs.set h.next (.cells (List.replicate k (SV.cells (.lit z))).flatten e), h.next + 1⟩) := by
      simp only [makeSliceE, ht, hi, hz', hc, cond_true, hcs]
      rfl
    show val (makeSliceE P h t (.lit (.int .i64 (Int.ofNat 0))) (.lit (.int .i64 (Int.ofNat k)))) = _
    rw [this]; rfl
  · rw [hv]
    refine list_st (l := []) (fun x hx => by cases hx) s.new ⟨_, .inl ⟨k, rfl, Nat.zero_le _, by omega, rfl, ?_⟩, by simp⟩
    rw [flat_len (size := i.size) fun y hy => by rw [List.eq_of_mem_replicate hy]; exact hz, List.length_replicate]
end
noncomputable def idZ : Value := ((Tryz.prog.info? 25).bind (·.zero)).getD (.int .i64 0)
theorem idE_len : (SV.cells (.lit idZ)).length = 2 := by kernel_rfl
theorem idE_room : ∃ i, Tryz.prog.info? 25 = some i ∧ i.zero = some idZ ∧ i.size = 2 ∧ i.bytes ≤ 16 := by
  have h : (Tryz.prog.info? 25).isSome = true := by kernel_rfl
  obtain ⟨i, hi⟩ := Option.isSome_iff_exists.1 h
  have h2 : ((Tryz.prog.info? 25).map fun i => Nat.beq i.size 2 && (Nat.ble i.bytes 16 && i.zero.isSome)) = some true := by kernel_rfl
  rw [hi, Option.map_some, Option.some.injEq, Bool.and_eq_true, Bool.and_eq_true] at h2
  refine ⟨i, hi, ?_, Nat.eq_of_beq_eq_true h2.1, Nat.le_of_ble_eq_true h2.2.1⟩
  obtain ⟨z, hz⟩ := Option.isSome_iff_exists.1 h2.2.2
  rw [idZ, hi, Option.bind_some, hz, Option.getD_some]
def isClone (P : Program) (f : FuncId) : Bool := match P.funcs[f]? with
  | some fn => fn.body.isNone && (fn.name == "maps.clone") && (fn.origin == "" || fn.origin == "maps.clone")
  | none => false
def isPlainT (P : Program) (t : TypeId) : Bool := match tyU P t with
  | none => false
  | some (.interface _) => false
  | some _ => true
theorem asrt_same {P : Program} {t : TypeId} {v : SV} (hp : isPlainT P t = true) : True ∧ ∃ fs, one (assertQ P t false (.iface t v)) = some (v, fs) := by
  refine ⟨trivial, [], ?_⟩
  unfold isPlainT at hp
  unfold assertQ
  split at hp
  · cases hp
  · cases hp
  · rename_i d hd e
    rw [e]
    have : Nat.beq t t = true := Nat.beq_refl t
    cases d <;> first | (simp only [this, cond_true, cond_false]; rfl) | exact absurd rfl (hd _)
section
variable {κ α : Type} [DecidableEq κ] {P : Program} {Z h : Hp} {m : List Asrt} {kc : κ → SV} {ve : α → SV} {M : Nat} {L : List (κ × α)}
theorem mp_clone {f : FuncId} {t : TypeId} (hf : isClone P f = true) (s : St Z (mpA kc ve M L :: m) h) : ∃ (M' : Nat) (H : Hp), (cloneE P h f [.iface t (.map M)]).map (fun r => [r]) = some [(.iface t (.map M'), H)] ∧ h.next ≤ H.next ∧ True ∧ St Z (mpA kc ve M' L :: mpA kc ve M L :: m) H := by
  obtain ⟨es, c, h1, h2, h3, h4, h5, s'⟩ := st_map s
  refine ⟨h.next, ⟨h.objs.set h.next (.map es c), h.next + 1⟩, ?_, Nat.le_succ _, trivial, map_st s.new h2 h3 h4 h5⟩
  unfold isClone at hf
  unfold cloneE
  split at hf
  · rename_i fn e
    rw [e]
    simp only [hf, cond_true, h1]
    rfl
  · cases hf
end
def miA (b M : Nat) : Asrt := exA fun c : Nat => own b (.mapIter (some M) c [] c)
def mnA (b : Nat) : Asrt := own b (.mapIter none 0 [] 0)
section
variable {κ α : Type} [DecidableEq κ] {P : Program} {Z h : Hp} {m : List Asrt} {kc : κ → SV} {ve : α → SV} {M : Nat} {kt vt : TypeId}
theorem mi_new {t : TypeId} (ht : tyU P t = some (.map kt vt)) (s : St Z (mpA kc ve M [] :: m) h) : ∃ (b : Nat) (H : Hp), val (rangeE P h t (.map M)) = some [(.ptr b 0, H)] ∧ h.next ≤ H.next ∧ True ∧ St Z (miA b M :: mpA kc ve M [] :: m) H := by
  obtain ⟨es, c, h1, _⟩ := st_map s
  exact ⟨h.next, ⟨h.objs.set h.next (.mapIter (some M) c [] c), h.next + 1⟩, by simp only [rangeE, ht, h1]; rfl, Nat.le_succ _, trivial, st_ex.2 ⟨c, s.new⟩⟩
theorem mi_next {b : Nat} (s : St Z (miA b M :: mpA kc ve M [] :: m) h) : ∃ (_ : Unit) (H : Hp), nextE h (.ptr b 0) false = some [(.tuple [bV false], H)] ∧ h.next ≤ H.next ∧ True ∧ St Z (miA b M :: mpA kc ve M [] :: m) H := by
  obtain ⟨c, s1⟩ := st_ex.1 s
  have hg := (St.get (l := []) s1).1
  obtain ⟨es, c2, h1, h2, _⟩ := st_map (s1.perm (List.Perm.swap _ _ _))
  obtain rfl : es = [] := by simpa using h2
  exact ⟨(), h, by simp only [nextE, hg, h1]; rfl, Nat.le_refl _, trivial, s⟩
theorem mn_new {t : TypeId} (ht : tyU P t = some (.map kt vt)) (s : St Z m h) : ∃ (b : Nat) (H : Hp), val (rangeE P h t (.lit (.map none))) = some [(.ptr b 0, H)] ∧ h.next ≤ H.next ∧ True ∧ St Z (mnA b :: m) H :=
  ⟨h.next, ⟨h.objs.set h.next (.mapIter none 0 [] 0), h.next + 1⟩, by simp only [rangeE, ht]; rfl, Nat.le_succ _, trivial, s.new⟩
theorem mn_next {b : Nat} (s : St Z (mnA b :: m) h) : ∃ (_ : Unit) (H : Hp), nextE h (.ptr b 0) false = some [(.tuple [bV false], H)] ∧ h.next ≤ H.next ∧ True ∧ St Z (mnA b :: m) H := by
  have hg := (St.get (l := []) s).1
  exact ⟨(), h, by simp only [nextE, hg]; rfl, Nat.le_refl _, trivial, s⟩
end
abbrev w36Q (_Γ : Glob) (P : Nat) (l : List Asrt) (Zq : Hp) (vq : SV) (hq : Hp) : Prop := ∃ T : Nat, ∃ H : Nat, ∃ B : Nat, (True) ∧ vq = .tuple [] ∧ St Zq (own P (.cells [.lit (.slice none 0 0), .map T, .map H, .lit (.slice none 0 0), .map B] 306) :: mpA idK bbE T [] :: mpA idK slE H [] :: mpA idK bbE B [] :: l) hq
theorem w36r (Γ : Glob) [Mute Γ] (P : Nat)  {Z0 h : Hp} {l : List Asrt} (hs : St Z0 (own P (.cells [.lit (.slice none 0 0), .lit (.map none), .lit (.map none), .lit (.slice none 0 0), .lit (.map none)] 306) :: l) h) : Runs Tryz.prog Γ (.call 182 [.ptr P 0] h) fun oq => ∃ Z', Sub Z0 Z' ∧ w36Q Γ P l Z' oq.v oq.hp := by
  refine sx_fnZ (Q := w36Q Γ P l) Tryz.f182 Tryz.func182 (by kernel_rfl) [.ptr 0 0] zf3 ⟨0, 0, 0, 0, 1, 0⟩ (va { n := [P] }) (.new <| .new <| .new <| .swap [.obj 1 (.map [] 0)] [.asr 0] ⟨0, 0, 0, 0, 4, 1⟩ <| .swap [.obj 2 (.map [] 0)] [.asr 1] ⟨0, 0, 0, 0, 4, 2⟩ <| .swap [.obj 3 (.map [] 0)] [.asr 2] ⟨0, 0, 0, 0, 4, 3⟩ <| .ret (.tup []) [.blk 0 zf10 306, .asr 0, .asr 1, .asr 2]) 100000 (by kernel_rfl) hs rfl ?_
  refine d_new fun bk1 => ?_
  refine d_new fun bk2 => ?_
  refine d_new fun bk3 => ?_
  refine d_swap (α := Unit) (fun (_ : Unit) => { a := [mpA idK bbE bk1 []] }) (fun (_ : Unit) => True) (fun l h hs => ⟨(), ⟨trivial, mp_new (hs) (m := l) (h := h)⟩⟩) fun _ qs0 => ?_
  refine d_swap (α := Unit) (fun (_ : Unit) => { a := [mpA idK slE bk2 []] }) (fun (_ : Unit) => True) (fun l h hs => ⟨(), ⟨trivial, mp_new (hs) (m := l) (h := h)⟩⟩) fun _ qs1 => ?_
  refine d_swap (α := Unit) (fun (_ : Unit) => { a := [mpA idK bbE bk3 []] }) (fun (_ : Unit) => True) (fun l h hs => ⟨(), ⟨trivial, mp_new (hs) (m := l) (h := h)⟩⟩) fun _ qs2 => ?_
  exact d_retZ fun h hs => ⟨bk1, bk2, bk3, qf2, qf3, hs⟩
abbrev w37Q (_Γ : Glob) (v : SV) (L : List IdL) (l : List Asrt) (Zq : Hp) (vq : SV) (hq : Hp) : Prop := ∃ P : Nat, ∃ f : SV, ∃ T : Nat, ∃ H : Nat, ∃ B : Nat, (True) ∧ vq = .ptr P 0 ∧ St Zq (lsA 25 2 idE (oneS v) L :: own P (.cells [(oneS f), .map T, .map H, .lit (.slice none 0 0), .map B] 306) :: lsA 25 2 idE (oneS f) L :: mpA idK bbE T (thereOf L) :: mpA idK slE H [] :: mpA idK bbE B [] :: l) hq
noncomputable abbrev w37C (Γ : Glob) (v : SV) (L : List IdL) (Z0 : Hp) (l : List Asrt) : Cx := fnC Tryz.prog Γ Tryz.f113 1 [] (subA Z0 :: l) (PostZ Z0 (w37Q Γ v L l))
theorem w37_l1 (Γ : Glob) [Mute Γ] (v : SV) (L : List IdL) (h1 : L.Nodup ∧ ((0, 0) : IdL) ∉ L ∧ (L.length : Int) ≤ 1000) (bk0 T0 : Nat) (H0 B0 : Nat) {Z0 : Hp} {l : List Asrt} : ∀ (m : Nat) (Z : Hp) (i : Int) (a0 : SV) (X : List IdL) (C : List (IdL × Bool)) (_hi : 0 ≤ i ∧ i ≤ (L.length : Int) ∧ (X.length : Int) = i ∧ X = L.take i.toNat ∧ C = thereOf X) (_hm : ((L.length : Int) - i).toNat < m), den (w37C Γ v L Z0 l) (.stop [0, 1, 0, 1, 1, 1] zf11 zf4) ⟨2, 0, 0, 2, 4, 7⟩ (va { i := [(L.length : Int), i], r := [v, a0], n := [bk0, T0, H0, B0], a := [lsA 25 2 idE (oneS v) L, mpA idK bbE T0 [], mpA idK slE H0 [], mpA idK bbE B0 [], lsA 25 2 idE (oneS (.lit (.slice none 0 0))) [], lsA 25 2 idE (oneS a0) X, mpA idK bbE T0 C] }) Z := by
  intro m
  induction m with
  | zero => intros; omega
  | succ m ih =>
    intro Z i a0 X C hi hm
    refine sx_loop [0, 1, 0, 1, 1, 1] zf11 zf4 [] ⟨2, 0, 0, 2, 4, 7⟩ (.fork (.lt (.v 1) (.v 0)) (.row (.idxA 43 (.raw 0) (I (.v 1))) [.asr 0] (.raw 2) ⟨2, 0, 0, 3, 4, 7⟩ <| .row (.load 25 (.raw 2)) [.asr 0] (.agg [I (.v 2), I (.v 3)]) ⟨4, 0, 0, 3, 4, 7⟩ <| .new <| .row (.look 87 (.map 1) (.agg [I (.v 2), I (.v 3)]) true) [.asr 6] (.tup [.bool (.bv 0), .bool (.bv 1)]) ⟨4, 0, 2, 3, 5, 7⟩ <| .fork (.bv 1) (.vc (xI (.add (.v 1) (.z 1))) <| .stop [0, 1, 0, 1, 1, 1] zf9 zf4) <| .fork (.and (.eq (.v 2) (.z 0)) (.eq (.v 3) (.z 0))) (.vc (xI (.add (.v 1) (.z 1))) <| .stop [0, 1, 0, 1, 1, 1] zf9 zf4) <| .row (.len 43 (.raw 1)) [.asr 5] (I (.v 4)) ⟨5, 0, 2, 3, 5, 7⟩ <| .fork (.le (.z 1000) (.v 4)) (.vc (xI (.add (.v 1) (.z 1))) <| .stop [0, 1, 0, 1, 1, 1] zf9 zf4) <| .eff (.upd 87 (.map 1) (.agg [I (.v 2), I (.v 3)]) (.bool (.bl false))) [.asr 6] (.lit (.tuple #[])) [.asr 7] ⟨5, 0, 2, 3, 5, 8⟩ <| .new <| .eff (.app [43, 43] (.raw 1) (.slice 5 0 1 1)) [.asr 5, .blk 5 [I (.v 2), I (.v 3)] 25] (.raw 3) [.asr 8] ⟨5, 0, 2, 4, 6, 9⟩ <| .vc (xI (.add (.v 1) (.z 1))) <| .stop [0, 1, 0, 1, 1, 1] zf9 [.asr 8, .blk 0 [.raw 3, .map 1, .map 2, .lit (.slice none 0 0), .map 3] 306, .asr 7, .asr 2, .asr 3, .asr 0]) <| .ret (.ptr 0 0) [.asr 0, .blk 0 [.raw 1, .map 1, .map 2, .lit (.slice none 0 0), .map 3] 306, .asr 5, .asr 6, .asr 2, .asr 3]) 100000 (by kernel_rfl) (fun _ h => by cases h) ?_
    refine d_if (fun (cd1 : i < (L.length : Int)) => ?_) (fun (cd1 : ¬ (i < (L.length : Int))) => ?_)
    · refine d_row { r := [(elP (oneS v) (Int.toNat i * 2))] } True (fun l h hs => ls_idx (m := l) (h := h) (i := i) rfl rfl hs qf0 qf0) fun _ => ?_
      refine d_row { i := [(((lget L i)).1), (((lget L i)).2)] } True (fun l h hs => ls_load (m := l) (h := h) (i := i) rfl rfl hs qf0 qf0) fun _ => ?_
      refine d_new fun bk4 => ?_
      refine d_row { b := [(mget C ((((lget L i)).1), (((lget L i)).2))), (mhas C ((((lget L i)).1), (((lget L i)).2)))] } True (fun l h hs => mp_get2 (m := l) (h := h) (kc := idK) (ve := bbE) (L := C) (k := ((((lget L i)).1), (((lget L i)).2))) rfl idK_key rfl rfl hs) fun _ => ?_
      refine d_if (fun (cd2 : (mhas C ((((lget L i)).1), (((lget L i)).2))) = true) => ?_) (fun (cd2 : ¬ ((mhas C ((((lget L i)).1), (((lget L i)).2))) = true)) => ?_)
      · refine d_vc (show I6 (i + 1) from qf0) ?_
        exact d_stop (ih _ (i + 1) a0 X C qf0 qf0) rfl rfl
      · refine d_if (fun (cd3 : ((((lget L i)).1) = 0) ∧ ((((lget L i)).2) = 0)) => ?_) (fun (cd3 : ¬ (((((lget L i)).1) = 0) ∧ ((((lget L i)).2) = 0))) => ?_)
        · refine d_vc (show I6 (i + 1) from qf0) ?_
          exact d_stop (ih _ (i + 1) a0 X C qf0 qf0) rfl rfl
        · refine d_row { i := [(X.length : Int)] } True (fun l h hs => ls_len (m := l) (h := h) rfl (fun _ => rfl) hs) fun _ => ?_
          refine d_if (fun (cd4 : 1000 ≤ (X.length : Int)) => ?_) (fun (cd4 : ¬ (1000 ≤ (X.length : Int))) => ?_)
          · refine d_vc (show I6 (i + 1) from qf0) ?_
            exact d_stop (ih _ (i + 1) a0 X C qf0 qf0) rfl rfl
          · refine d_eff (fun (_ : Unit) => { a := [mpA idK bbE T0 (mset C ((((lget L i)).1), (((lget L i)).2)) false)] }) (fun _ => True) (fun l h hs => mp_set (m := l) (h := h) (k := ((((lget L i)).1), (((lget L i)).2))) (x := false) rfl idK_key hs rfl rfl) fun _ _ => ?_
            refine d_new fun bk5 => ?_
            refine d_eff (fun (v101 : SV) => { r := [v101], a := [lsA 25 2 idE (oneS v101) (X ++ [((((lget L i)).1), (((lget L i)).2))])] }) (fun _ => True) (fun l h hs => ls_push (m := l) (h := h) rfl idE_info (by decide) hs qf4 rfl rfl qf0) fun v101 _ => ?_
            refine d_vc (show I6 (i + 1) from qf0) ?_
            exact d_stop (ih _ (i + 1) v101 (X ++ [((((lget L i)).1), (((lget L i)).2))]) (mset C ((((lget L i)).1), (((lget L i)).2)) false) qf0 qf0) rfl rfl
    · exact d_retZ fun h hs => ⟨bk0, a0, T0, H0, B0, qf2, by first | rfl | (show (.ptr bk0 0 : SV) = _; simp_all), by first | exact hs | (have e2 := hi.2.2.2.2; subst e2; have e : X = L := (by rw [hi.2.2.2.1, List.take_of_length_le (by omega)]); subst e; exact hs)⟩
theorem w37r (Γ : Glob) [Mute Γ] (v : SV) (L : List IdL) (h1 : L.Nodup ∧ ((0, 0) : IdL) ∉ L ∧ (L.length : Int) ≤ 1000) {Z0 h : Hp} {l : List Asrt} (hs : St Z0 (lsA 25 2 idE (oneS v) L :: l) h) : Runs Tryz.prog Γ (.call 113 [(oneS v)] h) fun oq => ∃ Z', Sub Z0 Z' ∧ w37Q Γ v L l Z' oq.v oq.hp := by
  refine sx_fnZ (Q := w37Q Γ v L l) Tryz.f113 Tryz.func113 (by kernel_rfl) [.raw 0] [.asr 0] ⟨0, 0, 0, 1, 0, 1⟩ (va { r := [v], a := [lsA 25 2 idE (oneS v) L] }) (.new <| .call 182 [.ptr 0 0] zf3 (.tup []) [.blk 0 zf10 306, .asr 1, .asr 2, .asr 3] ⟨0, 0, 0, 1, 4, 4⟩ <| .row (.len 43 (.raw 0)) [.asr 0] (I (.v 0)) ⟨1, 0, 0, 1, 4, 4⟩ <| .swap [] [.asr 4] ⟨1, 0, 0, 1, 4, 5⟩ <| .stop [0, 1, 0, 1, 1, 1] [(3, .ptr 0 0), (12, .raw 0), (13, I (.v 0)), (14, I (.z 0))] [.asr 4, .blk 0 zf10 306, .asr 1, .asr 2, .asr 3, .asr 0]) 100000 (by kernel_rfl) hs rfl ?_
  refine d_new fun bk0 => ?_
  refine d_call (α := Nat × Nat × Nat) (fun (⟨T0, H0, B0⟩ : Nat × Nat × Nat) => { n := [T0, H0, B0], a := [mpA idK bbE T0 [], mpA idK slE H0 [], mpA idK bbE B0 []] }) (fun (⟨T0, H0, B0⟩ : Nat × Nat × Nat) => True) (fun l h hs => (w36r (h := h) (l := l) Γ bk0  hs).mono fun _ ⟨Z1, z1, T0, H0, B0, hq_, he_, hs_⟩ => ⟨Z1, z1, ⟨T0, H0, B0⟩, hq_, he_, hs_⟩) fun Z ⟨T0, H0, B0⟩ qd0 => ?_
  refine d_row { i := [(L.length : Int)] } True (fun l h hs => ls_len (m := l) (h := h) rfl (fun _ => rfl) hs) fun _ => ?_
  refine d_swap (α := Unit) (fun (_ : Unit) => { a := [lsA 25 2 idE (oneS (.lit (.slice none 0 0))) []] }) (fun (_ : Unit) => True) (fun l h hs => ⟨(), ⟨trivial, ls_nil (hs) (m := l) (h := h)⟩⟩) fun _ qs1 => ?_
  exact d_stop (w37_l1 Γ v L h1 bk0 T0 H0 B0 _ _ 0 (.lit (.slice none 0 0)) ([]) ([]) qf0 (Nat.lt_succ_self _)) rfl rfl
abbrev w38Q (_Γ : Glob) (_xa _xn : Int) (BQ _BL : Nat) (_BW P : Nat) (f : SV) (T H B : Nat) (l : List Asrt) (Zq : Hp) (vq : SV) (hq : Hp) : Prop := (True) ∧ vq = .tuple [] ∧ St Zq (own BQ (.cells [.ptr P 0] 214) :: own P (.cells [(oneS f), .map T, .map H, .lit (.slice none 0 0), .map B] 306) :: mpA idK slE H [] :: l) hq
noncomputable abbrev w38C (Γ : Glob) (xa xn : Int) (BQ BL : Nat) (BW P : Nat) (f : SV) (T H B : Nat) (Z0 : Hp) (l : List Asrt) : Cx := fnC Tryz.prog Γ Tryz.f252 4 [] (subA Z0 :: l) (PostZ Z0 (w38Q Γ xa xn BQ BL BW P f T H B l))
theorem w38_l1 (Γ : Glob) [Mute Γ] (xa xn : Int) (BQ BL : Nat) (BW P : Nat) (f : SV) (T H B : Nat)  (bk7 : Nat) {Z0 : Hp} {l : List Asrt} : ∀ (m : Nat) (Z : Hp)  (_hi : True) (_hm : 0 < m), den (w38C Γ xa xn BQ BL BW P f T H B Z0 l) (.stop [0, 1, 1] zf7 zf2) ⟨2, 0, 0, 1, 8, 1⟩ (va { i := [xa, xn], r := [f], n := [BQ, BL, BW, P, T, H, B, bk7], a := [mpA idK slE H []] }) Z := by
  intro m
  induction m with
  | zero => intros; omega
  | succ m ih =>
    intro Z  hi hm
    refine sx_loop [0, 1, 1] zf7 zf2 [] ⟨2, 0, 0, 1, 8, 1⟩ (.ret (.tup []) zf6) 100000 (by kernel_rfl) (fun _ h => by cases h) ?_
    exact d_retZ fun h hs => ⟨qf2, qf3, hs⟩
theorem w38r (Γ : Glob) [Mute Γ] (xa xn : Int) (BQ BL : Nat) (BW P : Nat) (f : SV) (T H B : Nat)  {Z0 h : Hp} {l : List Asrt} (hs : St Z0 (own BQ (.cells [.ptr P 0] 214) :: own P (.cells [(oneS f), .map T, .map H, .lit (.slice none 0 0), .map B] 306) :: mpA idK slE H [] :: l) h) : Runs Tryz.prog Γ (.call 252 [.agg [iV xa, iV xn], .ptr BQ 0, .ptr BL 0, .ptr BW 0] h) fun oq => ∃ Z', Sub Z0 Z' ∧ w38Q Γ xa xn BQ BL BW P f T H B l Z' oq.v oq.hp := by
  refine sx_fnZ (Q := w38Q Γ xa xn BQ BL BW P f T H B l) Tryz.f252 Tryz.func252 (by kernel_rfl) [.agg [I (.v 0), I (.v 1)], .ptr 0 0, .ptr 1 0, .ptr 2 0] zf6 ⟨2, 0, 0, 1, 7, 1⟩ (va { i := [xa, xn], r := [f], n := [BQ, BL, BW, P, T, H, B], a := [mpA idK slE H []] }) (.new <| .row (.look 303 (.map 5) (.agg [I (.v 0), I (.v 1)]) false) [.asr 0] (.lit (.slice none 0 0)) ⟨2, 0, 0, 1, 8, 1⟩ <| .stop [0, 1, 1] zf7 zf2) 100000 (by kernel_rfl) hs rfl ?_
  refine d_new fun bk7 => ?_
  refine d_row {  } True (fun l h hs => mp_get (m := l) (h := h) (kc := idK) (ve := slE) (L := []) (k := (xa, xn)) rfl idK_key rfl rfl hs) fun _ => ?_
  exact d_stop (w38_l1 Γ xa xn BQ BL BW P f T H B bk7 _ _  (by first | omega | (and_intros <;> intros <;> and_intros <;> first | omega | assumption | (simp at *; omega) | (simp_all; done) | (simp_all; omega))) (Nat.lt_succ_self _)) rfl rfl
abbrev w39Q (_Γ : Glob) (P : Nat) (f : SV) (T H B : Nat) (L : List IdL) (l : List Asrt) (Zq : Hp) (vq : SV) (hq : Hp) : Prop := ∃ o : SV, (True) ∧ vq = (oneS o) ∧ St Zq (own P (.cells [(oneS f), .map T, .map H, .lit (.slice none 0 0), .map B] 306) :: lsA 25 2 idE (oneS f) L :: mpA idK bbE T (thereOf L) :: mpA idK slE H [] :: mpA idK bbE B [] :: lsA 25 2 idE (oneS o) L :: l) hq
noncomputable abbrev w39C (Γ : Glob) (P : Nat) (f : SV) (T H B : Nat) (L : List IdL) (Z0 : Hp) (l : List Asrt) : Cx := fnC Tryz.prog Γ Tryz.f187 1 [] (subA Z0 :: l) (PostZ Z0 (w39Q Γ P f T H B L l))
theorem w39_l1 (Γ : Glob) [Mute Γ] (P : Nat) (f : SV) (T H B : Nat) (L : List IdL) (h1 : (L.length : Int) ≤ 1000) (bk4 : Nat) (v0 : SV) (bk5 bk6 : Nat) {Z0 : Hp} {l : List Asrt} : ∀ (m : Nat) (Z : Hp) (i : Int) (out : SV) (X : List IdL) (_hi : 0 ≤ i ∧ i ≤ (L.length : Int) ∧ (X.length : Int) = i ∧ X = L.take i.toNat) (_hm : ((L.length : Int) - i).toNat < m), den (w39C Γ P f T H B L Z0 l) (.stop [0, 1, 0, 1, 1, 1, 1, 1, 1] zf8 zf1) ⟨3, 0, 0, 4, 7, 8⟩ (va { i := [((thereOf L).length : Int), (L.length : Int), i], r := [f, v0, f, out], n := [P, T, H, B, bk4, bk5, bk6], a := [lsA 25 2 idE (oneS f) L, mpA idK bbE T (thereOf L), mpA idK slE H [], mpA idK bbE B [], lsA 25 2 idE (oneS v0) [], mpA idK slE H [], lsA 25 2 idE (oneS out) X, mpA idK slE H []] }) Z := by
  intro m
  induction m with
  | zero => intros; omega
  | succ m ih =>
    intro Z i out X hi hm
    refine sx_loop [0, 1, 0, 1, 1, 1, 1, 1, 1] zf8 zf1 [] ⟨3, 0, 0, 4, 7, 8⟩ (.fork (.lt (.v 2) (.v 1)) (.row (.idxA 43 (.raw 2) (I (.v 2))) [.asr 0] (.raw 4) ⟨3, 0, 0, 5, 7, 8⟩ <| .row (.load 25 (.raw 4)) [.asr 0] (.agg [I (.v 3), I (.v 4)]) ⟨5, 0, 0, 5, 7, 8⟩ <| .new <| .new <| .eff (.app [43, 43] (.raw 3) (.slice 8 0 1 1)) [.asr 6, .blk 8 [I (.v 3), I (.v 4)] 25] (.raw 5) [.asr 8] ⟨5, 0, 0, 6, 9, 9⟩ <| .call 252 [.agg [I (.v 3), I (.v 4)], .ptr 4 0, .ptr 5 0, .ptr 6 0] [.blk 4 [.ptr 0 0] 214, .blk 0 zf12 306, .asr 7] (.tup []) [.blk 4 [.ptr 0 0] 214, .blk 0 zf13 306, .asr 9] ⟨5, 0, 0, 7, 9, 10⟩ <| .vc (xI (.add (.v 2) (.z 1))) <| .stop [0, 1, 0, 1, 1, 1, 1, 1, 1] [(3, .ptr 5 0), (4, .ptr 6 0), (22, .raw 2), (23, I (.v 1)), (24, I (.add (.v 2) (.z 1)))] [.blk 4 [.ptr 0 0] 214, .blk 0 zf13 306, .asr 9, .blk 6 [.fn 252 [] [.ptr 4 0, .ptr 5 0, .ptr 6 0]] 381, .blk 5 [.raw 5] 43, .asr 8, .asr 0, .asr 1, .asr 3]) <| .ret (.raw 3) [.blk 0 zf12 306, .asr 0, .asr 1, .asr 7, .asr 3, .asr 6]) 100000 (by kernel_rfl) (fun _ h => by cases h) ?_
    refine d_if (fun (cd1 : i < (L.length : Int)) => ?_) (fun (cd1 : ¬ (i < (L.length : Int))) => ?_)
    · refine d_row { r := [(elP (oneS f) (Int.toNat i * 2))] } True (fun l h hs => ls_idx (m := l) (h := h) (i := i) rfl rfl hs qf1 qf1) fun _ => ?_
      refine d_row { i := [(((lget L i)).1), (((lget L i)).2)] } True (fun l h hs => ls_load (m := l) (h := h) (i := i) rfl rfl hs qf1 qf1) fun _ => ?_
      refine d_new fun bk7 => ?_
      refine d_new fun bk8 => ?_
      refine d_eff (fun (v100 : SV) => { r := [v100], a := [lsA 25 2 idE (oneS v100) (X ++ [((((lget L i)).1), (((lget L i)).2))])] }) (fun _ => True) (fun l h hs => ls_push (m := l) (h := h) rfl idE_info (by decide) hs qf4 rfl rfl qf1) fun v100 _ => ?_
      refine d_call (α := Unit) (fun (_ : Unit) => { r := [f], a := [mpA idK slE H []] }) (fun (_ : Unit) => True) (fun l h hs => (w38r (h := h) (l := l) Γ (((lget L i)).1) (((lget L i)).2) bk4 bk5 bk6 P f T H B  hs).mono fun _ ⟨Z1, z1, hq_, he_, hs_⟩ => ⟨Z1, z1, (), hq_, he_, hs_⟩) fun Z _ qd101 => ?_
      refine d_vc (show I6 (i + 1) from qf1) ?_
      exact d_stop (ih _ (i + 1) v100 (X ++ [((((lget L i)).1), (((lget L i)).2))]) qf1 qf1) rfl rfl
    · exact d_retZ fun h hs => ⟨out, qf2, by first | rfl | (show ((oneS out) : SV) = _; simp_all), by first | exact hs | (have e : X = L := (by rw [hi.2.2.2, List.take_of_length_le (by omega)]); subst e; exact hs)⟩
theorem w39r (Γ : Glob) [Mute Γ] (P : Nat) (f : SV) (T H B : Nat) (L : List IdL) (h1 : (L.length : Int) ≤ 1000) {Z0 h : Hp} {l : List Asrt} (hs : St Z0 (own P (.cells [(oneS f), .map T, .map H, .lit (.slice none 0 0), .map B] 306) :: lsA 25 2 idE (oneS f) L :: mpA idK bbE T (thereOf L) :: mpA idK slE H [] :: mpA idK bbE B [] :: l) h) : Runs Tryz.prog Γ (.call 187 [.ptr P 0] h) fun oq => ∃ Z', Sub Z0 Z' ∧ w39Q Γ P f T H B L l Z' oq.v oq.hp := by
  refine sx_fnZ (Q := w39Q Γ P f T H B L l) Tryz.f187 Tryz.func187 (by kernel_rfl) [.ptr 0 0] zf5 ⟨0, 0, 0, 1, 4, 4⟩ (va { r := [f], n := [P, T, H, B], a := [lsA 25 2 idE (oneS f) L, mpA idK bbE T (thereOf L), mpA idK slE H [], mpA idK bbE B []] }) (.new <| .row (.len 87 (.map 1)) [.asr 1] (I (.v 0)) ⟨1, 0, 0, 1, 5, 4⟩ <| .eff (.mks 43 (I (.z 0)) (I (.v 0))) [] (.raw 1) [.asr 4] ⟨1, 0, 0, 2, 5, 5⟩ <| .new <| .new <| .call 252 [.agg [I (.z 0), I (.z 0)], .ptr 4 0, .ptr 5 0, .ptr 6 0] [.blk 4 [.ptr 0 0] 214, .blk 0 zf14 306, .asr 2] (.tup []) [.blk 4 [.ptr 0 0] 214, .blk 0 zf12 306, .asr 5] ⟨1, 0, 0, 3, 7, 6⟩ <| .row (.len 43 (.raw 2)) [.asr 0] (I (.v 1)) ⟨2, 0, 0, 3, 7, 6⟩ <| .stop [0, 1, 0, 1, 1, 1, 1, 1, 1] [(3, .ptr 5 0), (4, .ptr 6 0), (22, .raw 2), (23, I (.v 1)), (24, I (.z 0))] [.blk 4 [.ptr 0 0] 214, .blk 0 zf12 306, .asr 5, .blk 6 [.fn 252 [] [.ptr 4 0, .ptr 5 0, .ptr 6 0]] 381, .blk 5 [.raw 1] 43, .asr 4, .asr 0, .asr 1, .asr 3]) 100000 (by kernel_rfl) hs rfl ?_
  refine d_new fun bk4 => ?_
  refine d_row { i := [((thereOf L).length : Int)] } True (fun l h hs => mp_len (m := l) (h := h) rfl hs) fun _ => ?_
  refine d_eff (fun (v0 : SV) => { r := [v0], a := [lsA 25 2 idE (oneS v0) []] }) (fun _ => True) (fun l h hs => ls_makec (m := l) (h := h) (enc := idE) (n := ((thereOf L).length : Int)) rfl idE_room idE_len qf1 qf1 (by decide) hs) fun v0 _ => ?_
  refine d_new fun bk5 => ?_
  refine d_new fun bk6 => ?_
  refine d_call (α := Unit) (fun (_ : Unit) => { r := [f], a := [mpA idK slE H []] }) (fun (_ : Unit) => True) (fun l h hs => (w38r (h := h) (l := l) Γ 0 0 bk4 bk5 bk6 P f T H B  hs).mono fun _ ⟨Z1, z1, hq_, he_, hs_⟩ => ⟨Z1, z1, (), hq_, he_, hs_⟩) fun Z _ qd1 => ?_
  refine d_row { i := [(L.length : Int)] } True (fun l h hs => ls_len (m := l) (h := h) rfl (fun _ => rfl) hs) fun _ => ?_
  exact d_stop (w39_l1 Γ P f T H B L h1 bk4 v0 bk5 bk6 _ _ 0 v0 ([]) qf1 (Nat.lt_succ_self _)) rfl rfl
abbrev w41Q (_Γ : Glob) (M : Nat) (C : List (IdL × Bool)) (l : List Asrt) (Zq : Hp) (vq : SV) (hq : Hp) : Prop := ∃ M1 : Nat, (True) ∧ vq = .map M1 ∧ St Zq (mpA idK bbE M C :: mpA idK bbE M1 C :: l) hq
theorem w41r (Γ : Glob) [Mute Γ] (M : Nat) (C : List (IdL × Bool))  {Z0 h : Hp} {l : List Asrt} (hs : St Z0 (mpA idK bbE M C :: l) h) : Runs Tryz.prog Γ (.call 250 [.map M] h) fun oq => ∃ Z', Sub Z0 Z' ∧ w41Q Γ M C l Z' oq.v oq.hp := by
  refine sx_fnZ (Q := w41Q Γ M C l) Tryz.f250 Tryz.func250 (by kernel_rfl) [.map 0] [.asr 0] ⟨0, 0, 0, 0, 1, 1⟩ (va { n := [M], a := [mpA idK bbE M C] }) (.eff (.clone 89 (.iface 87 (.map 0))) [.asr 0] (.iface 87 (.map 1)) [.asr 1, .asr 2] ⟨0, 0, 0, 0, 2, 3⟩ <| .row (.asrt 87 false (.iface 87 (.map 1))) [] (.map 1) ⟨0, 0, 0, 0, 2, 3⟩ <| .ret (.map 1) [.asr 2, .asr 1]) 100000 (by kernel_rfl) hs rfl ?_
  refine d_eff (fun (cm0 : Nat) => { n := [cm0], a := [mpA idK bbE cm0 C, mpA idK bbE M C] }) (fun _ => True) (fun l h hs => mp_clone (m := l) (h := h) (kc := idK) (ve := bbE) (L := C) (by kernel_rfl) hs) fun cm0 _ => ?_
  refine d_row {  } True (fun l h hs => asrt_same (by kernel_rfl)) fun _ => ?_
  exact d_retZ fun h hs => ⟨cm0, qf2, by first | rfl | (show (.map cm0 : SV) = _; simp_all), hs⟩
abbrev w42Q (_Γ : Glob)  (l : List Asrt) (Zq : Hp) (vq : SV) (hq : Hp) : Prop := (True) ∧ vq = .lit (.slice none 0 0) ∧ St Zq (l) hq
theorem w42r (Γ : Glob) [Mute Γ]   {Z0 h : Hp} {l : List Asrt} (hs : St Z0 (l) h) : Runs Tryz.prog Γ (.call 251 [.lit (.slice none 0 0)] h) fun oq => ∃ Z', Sub Z0 Z' ∧ w42Q Γ  l Z' oq.v oq.hp := by
  refine sx_fnZ (Γ := Γ) (Q := w42Q Γ  l) Tryz.f251 Tryz.func251 (by kernel_rfl) [.lit (.slice none 0 0)] [] {} (va {  }) (.ret (.lit (.slice none 0 0)) []) 100000 (by kernel_rfl) hs rfl ?_
  exact d_retZ fun h hs => ⟨qf2, by first | rfl | (show (.lit (.slice none 0 0) : SV) = _; simp_all), hs⟩
abbrev w43Q (_Γ : Glob) (P : Nat) (f : SV) (T H B : Nat) (L : List IdL) (l : List Asrt) (Zq : Hp) (vq : SV) (hq : Hp) : Prop := ∃ P1 : Nat, ∃ f1 : SV, ∃ T1 : Nat, ∃ H1 : Nat, ∃ B1 : Nat, (True) ∧ vq = .ptr P1 0 ∧ St Zq (own P (.cells [(oneS f), .map T, .map H, .lit (.slice none 0 0), .map B] 306) :: lsA 25 2 idE (oneS f) L :: mpA idK bbE T (thereOf L) :: mpA idK slE H [] :: mpA idK bbE B [] :: own P1 (.cells [(oneS f1), .map T1, .map H1, .lit (.slice none 0 0), .map B1] 306) :: lsA 25 2 idE (oneS f1) L :: mpA idK bbE T1 (thereOf L) :: mpA idK slE H1 [] :: mpA idK bbE B1 [] :: l) hq
noncomputable abbrev w43C (Γ : Glob) (P : Nat) (f : SV) (T H B : Nat) (L : List IdL) (Z0 : Hp) (l : List Asrt) : Cx := fnC Tryz.prog Γ Tryz.f186 1 [] (subA Z0 :: l) (PostZ Z0 (w43Q Γ P f T H B L l))
theorem w43_l1 (Γ : Glob) [Mute Γ] (P : Nat) (f : SV) (T H B : Nat) (L : List IdL) (_h1 : (L.length : Int) ≤ 1000) (bk4 : Nat) (w0 : SV) (M11 M13 : Nat) (bk7 bk8 : Nat) {Z0 : Hp} {l : List Asrt} : ∀ (m : Nat) (Z : Hp)  (_hi : True) (_hm : 0 < m), den (w43C Γ P f T H B L Z0 l) (.stop [0, 1, 0, 1, 1, 1] zf15 zf0) ⟨0, 0, 0, 2, 9, 12⟩ (va { r := [f, w0], n := [P, T, H, B, bk4, M11, M13, bk7, bk8], a := [lsA 25 2 idE (oneS f) L, mpA idK bbE T (thereOf L), mpA idK slE H [], mpA idK bbE B [], lsA 25 2 idE (oneS f) L, lsA 25 2 idE (oneS w0) L, mpA idK bbE T (thereOf L), mpA idK bbE M11 (thereOf L), mpA idK bbE B ([]), mpA idK bbE M13 ([]), miA bk8 H, mpA idK slE H []] }) Z := by
  intro m
  induction m with
  | zero => intros; omega
  | succ m ih =>
    intro Z  hi hm
    refine sx_loop [0, 1, 0, 1, 1, 1] zf15 zf0 [] ⟨0, 0, 0, 2, 9, 12⟩ (.eff (.next (.ptr 8 0) false) [.asr 10, .asr 11] (.tup [.bool (.bl false)]) [.asr 12, .asr 13] ⟨0, 0, 0, 2, 9, 14⟩ <| .swap [.obj 4 (.map [] 0)] [.asr 14] ⟨0, 0, 0, 2, 9, 15⟩ <| .ret (.ptr 7 0) [.blk 0 zf14 306, .asr 4, .asr 6, .asr 13, .asr 8, .blk 7 [.raw 1, .map 5, .map 4, .lit (.slice none 0 0), .map 6] 306, .asr 5, .asr 7, .asr 14, .asr 9]) 100000 (by kernel_rfl) (fun _ h => by cases h) ?_
    refine d_eff (fun (_ : Unit) => { a := [miA bk8 H, mpA idK slE H []] }) (fun _ => True) (fun l h hs => mi_next (m := l) (h := h) (kc := idK) (ve := slE) hs) fun _ _ => ?_
    refine d_swap (α := Unit) (fun (_ : Unit) => { a := [mpA idK slE bk4 []] }) (fun (_ : Unit) => True) (fun l h hs => ⟨(), ⟨trivial, mp_new (hs) (m := l) (h := h)⟩⟩) fun _ qs100 => ?_
    exact d_retZ fun h hs => ⟨bk7, w0, M11, bk4, M13, qf2, by first | rfl | (show (.ptr bk7 0 : SV) = _; simp_all), hs⟩
theorem w43r (Γ : Glob) [Mute Γ] (P : Nat) (f : SV) (T H B : Nat) (L : List IdL) (h1 : (L.length : Int) ≤ 1000) {Z0 h : Hp} {l : List Asrt} (hs : St Z0 (own P (.cells [(oneS f), .map T, .map H, .lit (.slice none 0 0), .map B] 306) :: lsA 25 2 idE (oneS f) L :: mpA idK bbE T (thereOf L) :: mpA idK slE H [] :: mpA idK bbE B [] :: l) h) : Runs Tryz.prog Γ (.call 186 [.ptr P 0] h) fun oq => ∃ Z', Sub Z0 Z' ∧ w43Q Γ P f T H B L l Z' oq.v oq.hp := by
  refine sx_fnZ (Q := w43Q Γ P f T H B L l) Tryz.f186 Tryz.func186 (by kernel_rfl) [.ptr 0 0] zf5 ⟨0, 0, 0, 1, 4, 4⟩ (va { r := [f], n := [P, T, H, B], a := [lsA 25 2 idE (oneS f) L, mpA idK bbE T (thereOf L), mpA idK slE H [], mpA idK bbE B []] }) (.new <| .call 97 [.raw 0] [.asr 0] (.raw 1) [.asr 4, .asr 5] ⟨0, 0, 0, 2, 5, 6⟩ <| .call 250 [.map 1] [.asr 1] (.map 5) [.asr 6, .asr 7] ⟨0, 0, 0, 2, 6, 8⟩ <| .call 251 [.lit (.slice none 0 0)] [] (.lit (.slice none 0 0)) [] ⟨0, 0, 0, 2, 6, 8⟩ <| .call 250 [.map 3] [.asr 3] (.map 6) [.asr 8, .asr 9] ⟨0, 0, 0, 2, 7, 10⟩ <| .new <| .eff (.range 303 (.map 2)) [.asr 2] (.ptr 8 0) [.asr 10, .asr 11] ⟨0, 0, 0, 2, 9, 12⟩ <| .stop [0, 1, 0, 1, 1, 1] zf15 zf0) 100000 (by kernel_rfl) hs rfl ?_
  refine d_new fun bk4 => ?_
  refine d_call (α := SV) (fun (w0 : SV) => { r := [w0], a := [lsA 25 2 idE (oneS f) L, lsA 25 2 idE (oneS w0) L] }) (fun (w0 : SV) => True) (fun l h hs => w3r (h := h) (l := l) Γ f L qf5 hs) fun Z w0 qd0 => ?_
  refine d_call (α := Nat) (fun (M11 : Nat) => { n := [M11], a := [mpA idK bbE T (thereOf L), mpA idK bbE M11 (thereOf L)] }) (fun (M11 : Nat) => True) (fun l h hs => w41r (h := h) (l := l) Γ T (thereOf L)  hs) fun Z M11 qd1 => ?_
  refine d_call (α := Unit) (fun (_ : Unit) => {  }) (fun (_ : Unit) => True) (fun l h hs => (w42r (h := h) (l := l) Γ   hs).mono fun _ ⟨Z1, z1, hq_, he_, hs_⟩ => ⟨Z1, z1, (), hq_, he_, hs_⟩) fun Z _ qd2 => ?_
  refine d_call (α := Nat) (fun (M13 : Nat) => { n := [M13], a := [mpA idK bbE B ([]), mpA idK bbE M13 ([])] }) (fun (M13 : Nat) => True) (fun l h hs => w41r (h := h) (l := l) Γ B ([])  hs) fun Z M13 qd3 => ?_
  refine d_new fun bk7 => ?_
  refine d_eff (fun (bk8 : Nat) => { n := [bk8], a := [miA bk8 H, mpA idK slE H []] }) (fun _ => True) (fun l h hs => mi_new (m := l) (h := h) (kc := idK) (ve := slE) rfl hs) fun bk8 _ => ?_
  exact d_stop (w43_l1 Γ P f T H B L h1 bk4 w0 M11 M13 bk7 bk8 _ _  qf5 (Nat.lt_succ_self _)) rfl rfl
open Go Go.Proofs.YtdhmljjpiainnaaGreatDoor.Ev
set_option maxRecDepth 20000
set_option maxHeartbeats 4000000
abbrev zg0 : List XV := [I (.z 0), I (.z 0), I (.z 0), I (.z 0), I (.z 0), I (.z 0), I (.z 0), I (.z 0), I (.z 0), .txt (.tl []), I (.z 0), I (.z 0), I (.z 0), I (.z 0), .txt (.tl []), .bool (.bl false), I (.z 0), I (.z 0), I (.z 0), I (.z 0), I (.z 0), .txt (.tl []), .bool (.bl false), I (.z 0), .txt (.tl []), I (.z 0), I (.z 0), I (.z 0), I (.z 0), .bool (.bl false), .bool (.bl false), I (.z 0), I (.z 0), I (.z 0), I (.z 0), .bool (.bl false), .bool (.bl false), I (.z 0), .lit (.slice none 0 0), .lit (.slice none 0 0)]
abbrev zg1 : List MI := [.blk 0 [.lit (.map none), .lit (.map none), .lit (.map none), I (.v 0), I (.v 1), I (.v 2), .lit (.slice none 0 0), .lit (.map none), .lit (.map none), .lit (.map none), .lit (.pointer none), .bool (.bl false)] 89]
abbrev zg3 : List XV := [.lit (.pointer none), I (.v 0)]
theorem qg0 {P : Prop} (h : P := by first | trivial | omega | (and_intros <;> intros <;> and_intros <;> first | trivial | omega | assumption | (simp at *; omega) | (simp_all; done) | (simp_all; omega))) : P := h
theorem qg1 {P : Prop} (h : P := by first | rfl | (show (.tuple [.agg [iV 0, iV 0, iV 0, iV 0, iV 0, iV 0, iV 0, iV 0, iV 0, sV ([] : List UInt8), iV 0, iV 0, iV 0, iV 0, sV ([] : List UInt8), bV false, iV 0, iV 0, iV 0, iV 0, iV 0, sV ([] : List UInt8), bV false, iV 0, sV ([] : List UInt8), iV 0, iV 0, iV 0, iV 0, bV false, bV false, iV 0, iV 0, iV 0, iV 0, bV false, bV false, iV 0, .lit (.slice none 0 0), .lit (.slice none 0 0)], iV 1] : SV) = _; simp_all)) : P := h
theorem qg2 {P : Prop} (h : P := by first | omega | (and_intros <;> intros <;> and_intros <;> first | omega | assumption | (simp at *; omega) | (simp_all; done) | (simp_all; omega))) : P := h
theorem qg3 {P : Prop} (h : P := by first | rfl | (exfalso; omega)) : P := h
theorem qg4 {P : Prop} (h : P := by first | rfl | (show (bV false : SV) = _; simp_all)) : P := h
theorem qg5 {P : Prop} (h : P := by first | rfl | (show (.lit (.slice none 0 0) : SV) = _; simp_all)) : P := h
theorem qg6 {P : Prop} (h : P := by first | rfl | (show (.tuple [.agg [iV 0, iV 0, iV 0, iV 0, iV 0, iV 0, iV 0, iV 0, iV 0, sV ([] : List UInt8), iV 0, iV 0, iV 0, iV 0, sV ([] : List UInt8), bV false, iV 0, iV 0, iV 0, iV 0, iV 0, sV ([] : List UInt8), bV false, iV 0, sV ([] : List UInt8), iV 0, iV 0, iV 0, iV 0, bV false, bV false, iV 0, iV 0, iV 0, iV 0, bV false, bV false, iV 0, .lit (.slice none 0 0), .lit (.slice none 0 0)], iV 0, iV 1] : SV) = _; simp_all)) : P := h
abbrev w45Q (_Γ : Glob) (xa xn : Int) (l : List Asrt) (Zq : Hp) (vq : SV) (hq : Hp) : Prop := ∃ ok : Bool, (ok = decide (1 ≤ xa ∧ xa ≤ 1000 ∧ 1 ≤ xn)) ∧ vq = bV ok ∧ St Zq (l) hq
theorem w45r (Γ : Glob) [Mute Γ] (xa xn : Int)  {Z0 h : Hp} {l : List Asrt} (hs : St Z0 (l) h) : Runs Tryz.prog Γ (.call 21 [.agg [iV xa, iV xn]] h) fun oq => ∃ Z', Sub Z0 Z' ∧ w45Q Γ xa xn l Z' oq.v oq.hp := by
  refine sx_fnZ (Γ := Γ) (Q := w45Q Γ xa xn l) Tryz.f21 Tryz.func21 (by kernel_rfl) [.agg [I (.v 0), I (.v 1)]] [] ⟨2, 0, 0, 0, 0, 0⟩ (va { i := [xa, xn] }) (.new <| .fork (.le (.z 1) (.v 0)) (.fork (.le (.v 0) (.z 1000)) (.ret (.bool (.le (.z 1) (.v 1))) []) <| .ret (.bool (.bl false)) []) <| .ret (.bool (.bl false)) []) 100000 (by kernel_rfl) hs rfl ?_
  refine d_new fun bk0 => ?_
  refine d_if (fun (cd1 : 1 ≤ xa) => ?_) (fun (cd1 : ¬ (1 ≤ xa)) => ?_)
  · refine d_if (fun (cd2 : xa ≤ 1000) => ?_) (fun (cd2 : ¬ (xa ≤ 1000)) => ?_)
    · exact d_retZ fun h hs => ⟨(decide (1 ≤ xn)), qg0, by first | rfl | (show (bV (decide (1 ≤ xn)) : SV) = _; simp_all), hs⟩
    · exact d_retZ fun h hs => ⟨false, qg0, qg4, hs⟩
  · exact d_retZ fun h hs => ⟨false, qg0, qg4, hs⟩
abbrev w47Q (_Γ : Glob)  (l : List Asrt) (Zq : Hp) (vq : SV) (hq : Hp) : Prop := (True) ∧ vq = .lit (.pointer none) ∧ St Zq (l) hq
theorem w47r (Γ : Glob) [Mute Γ]   {Z0 h : Hp} {l : List Asrt} (hs : St Z0 (l) h) : Runs Tryz.prog Γ (.call 16 [.lit (.pointer none)] h) fun oq => ∃ Z', Sub Z0 Z' ∧ w47Q Γ  l Z' oq.v oq.hp := by
  refine sx_fnZ (Γ := Γ) (Q := w47Q Γ  l) Tryz.f16 Tryz.func16 (by kernel_rfl) [.lit (.pointer none)] [] {} (va {  }) (.ret (.lit (.pointer none)) []) 100000 (by kernel_rfl) hs rfl ?_
  exact d_retZ fun h hs => ⟨qg0, by first | rfl | (show (.lit (.pointer none) : SV) = _; simp_all), hs⟩
abbrev w48Q (_Γ : Glob)  (l : List Asrt) (Zq : Hp) (vq : SV) (hq : Hp) : Prop := (True) ∧ vq = .lit (.slice none 0 0) ∧ St Zq (l) hq
theorem w48r (Γ : Glob) [Mute Γ]   {Z0 h : Hp} {l : List Asrt} (hs : St Z0 (l) h) : Runs Tryz.prog Γ (.call 17 [.lit (.pointer none), .lit (.pointer none)] h) fun oq => ∃ Z', Sub Z0 Z' ∧ w48Q Γ  l Z' oq.v oq.hp := by
  refine sx_fnZ (Γ := Γ) (Q := w48Q Γ  l) Tryz.f17 Tryz.func17 (by kernel_rfl) [.lit (.pointer none), .lit (.pointer none)] [] {} (va {  }) (.ret (.lit (.slice none 0 0)) []) 100000 (by kernel_rfl) hs rfl ?_
  exact d_retZ fun h hs => ⟨qg0, qg5, hs⟩
abbrev w49Q (_Γ : Glob) (_a _b : Int) (_x : List UInt8) (l : List Asrt) (Zq : Hp) (vq : SV) (hq : Hp) : Prop := (True) ∧ vq = .tuple [.agg [iV 0, iV 0, iV 0, iV 0, iV 0, iV 0, iV 0, iV 0, iV 0, sV ([] : List UInt8), iV 0, iV 0, iV 0, iV 0, sV ([] : List UInt8), bV false, iV 0, iV 0, iV 0, iV 0, iV 0, sV ([] : List UInt8), bV false, iV 0, sV ([] : List UInt8), iV 0, iV 0, iV 0, iV 0, bV false, bV false, iV 0, iV 0, iV 0, iV 0, bV false, bV false, iV 0, .lit (.slice none 0 0), .lit (.slice none 0 0)], iV 0, iV 1] ∧ St Zq (l) hq
theorem w49r (Γ : Glob) [Mute Γ] (a b : Int) (x : List UInt8)  {Z0 h : Hp} {l : List Asrt} (hs : St Z0 (l) h) : Runs Tryz.prog Γ (.call 5 [.lit (.pointer none), iV a, iV b, sV x] h) fun oq => ∃ Z', Sub Z0 Z' ∧ w49Q Γ a b x l Z' oq.v oq.hp := by
  refine sx_fnZ (Γ := Γ) (Q := w49Q Γ a b x l) Tryz.f5 Tryz.func5 (by kernel_rfl) [.lit (.pointer none), I (.v 0), I (.v 1), .txt (.tv 0)] [] ⟨2, 1, 0, 0, 0, 0⟩ (va { i := [a, b], t := [x] }) (.new <| .ret (.tup [.agg zg0, I (.z 0), I (.z 1)]) []) 100000 (by kernel_rfl) hs rfl ?_
  refine d_new fun bk0 => ?_
  exact d_retZ fun h hs => ⟨qg0, qg6, hs⟩
abbrev w50Q (_Γ : Glob) (_y _x : List UInt8) (l : List Asrt) (Zq : Hp) (vq : SV) (hq : Hp) : Prop := (True) ∧ vq = .tuple [.agg [iV 0, iV 0, iV 0, iV 0, iV 0, iV 0, iV 0, iV 0, iV 0, sV ([] : List UInt8), iV 0, iV 0, iV 0, iV 0, sV ([] : List UInt8), bV false, iV 0, iV 0, iV 0, iV 0, iV 0, sV ([] : List UInt8), bV false, iV 0, sV ([] : List UInt8), iV 0, iV 0, iV 0, iV 0, bV false, bV false, iV 0, iV 0, iV 0, iV 0, bV false, bV false, iV 0, .lit (.slice none 0 0), .lit (.slice none 0 0)], iV 0, iV 1] ∧ St Zq (l) hq
theorem w50r (Γ : Glob) [Mute Γ] (y x : List UInt8)  {Z0 h : Hp} {l : List Asrt} (hs : St Z0 (l) h) : Runs Tryz.prog Γ (.call 6 [.lit (.pointer none), sV y, sV x] h) fun oq => ∃ Z', Sub Z0 Z' ∧ w50Q Γ y x l Z' oq.v oq.hp := by
  refine sx_fnZ (Γ := Γ) (Q := w50Q Γ y x l) Tryz.f6 Tryz.func6 (by kernel_rfl) [.lit (.pointer none), .txt (.tv 0), .txt (.tv 1)] [] ⟨0, 2, 0, 0, 0, 0⟩ (va { t := [y, x] }) (.new <| .ret (.tup [.agg zg0, I (.z 0), I (.z 1)]) []) 100000 (by kernel_rfl) hs rfl ?_
  refine d_new fun bk0 => ?_
  exact d_retZ fun h hs => ⟨qg0, qg6, hs⟩
abbrev w51Q (_Γ : Glob) (_a : Int) (l : List Asrt) (Zq : Hp) (vq : SV) (hq : Hp) : Prop := (True) ∧ vq = .tuple [.agg [iV 0, iV 0, iV 0, iV 0, iV 0, iV 0, iV 0, iV 0, iV 0, sV ([] : List UInt8), iV 0, iV 0, iV 0, iV 0, sV ([] : List UInt8), bV false, iV 0, iV 0, iV 0, iV 0, iV 0, sV ([] : List UInt8), bV false, iV 0, sV ([] : List UInt8), iV 0, iV 0, iV 0, iV 0, bV false, bV false, iV 0, iV 0, iV 0, iV 0, bV false, bV false, iV 0, .lit (.slice none 0 0), .lit (.slice none 0 0)], iV 1] ∧ St Zq (l) hq
theorem w51r (Γ : Glob) [Mute Γ] (a : Int)  {Z0 h : Hp} {l : List Asrt} (hs : St Z0 (l) h) : Runs Tryz.prog Γ (.call 7 [.lit (.pointer none), iV a] h) fun oq => ∃ Z', Sub Z0 Z' ∧ w51Q Γ a l Z' oq.v oq.hp := by
  refine sx_fnZ (Γ := Γ) (Q := w51Q Γ a l) Tryz.f7 Tryz.func7 (by kernel_rfl) zg3 [] ⟨1, 0, 0, 0, 0, 0⟩ (va { i := [a] }) (.new <| .ret (.tup [.agg zg0, I (.z 1)]) []) 100000 (by kernel_rfl) hs rfl ?_
  refine d_new fun bk0 => ?_
  exact d_retZ fun h hs => ⟨qg0, qg1, hs⟩
abbrev w52Q (_Γ : Glob) (_a : Int) (l : List Asrt) (Zq : Hp) (vq : SV) (hq : Hp) : Prop := (True) ∧ vq = .tuple [.agg [iV 0, iV 0, iV 0, iV 0, iV 0, iV 0, iV 0, iV 0, iV 0, sV ([] : List UInt8), iV 0, iV 0, iV 0, iV 0, sV ([] : List UInt8), bV false, iV 0, iV 0, iV 0, iV 0, iV 0, sV ([] : List UInt8), bV false, iV 0, sV ([] : List UInt8), iV 0, iV 0, iV 0, iV 0, bV false, bV false, iV 0, iV 0, iV 0, iV 0, bV false, bV false, iV 0, .lit (.slice none 0 0), .lit (.slice none 0 0)], iV 1] ∧ St Zq (l) hq
theorem w52r (Γ : Glob) [Mute Γ] (a : Int)  {Z0 h : Hp} {l : List Asrt} (hs : St Z0 (l) h) : Runs Tryz.prog Γ (.call 8 [.lit (.pointer none), iV a] h) fun oq => ∃ Z', Sub Z0 Z' ∧ w52Q Γ a l Z' oq.v oq.hp := by
  refine sx_fnZ (Γ := Γ) (Q := w52Q Γ a l) Tryz.f8 Tryz.func8 (by kernel_rfl) zg3 [] ⟨1, 0, 0, 0, 0, 0⟩ (va { i := [a] }) (.new <| .ret (.tup [.agg zg0, I (.z 1)]) []) 100000 (by kernel_rfl) hs rfl ?_
  refine d_new fun bk0 => ?_
  exact d_retZ fun h hs => ⟨qg0, qg1, hs⟩
abbrev w53Q (_Γ : Glob) (_a : Int) (l : List Asrt) (Zq : Hp) (vq : SV) (hq : Hp) : Prop := (True) ∧ vq = .tuple [.agg [iV 0, iV 0, iV 0, iV 0, iV 0, iV 0, iV 0, iV 0, iV 0, sV ([] : List UInt8), iV 0, iV 0, iV 0, iV 0, sV ([] : List UInt8), bV false, iV 0, iV 0, iV 0, iV 0, iV 0, sV ([] : List UInt8), bV false, iV 0, sV ([] : List UInt8), iV 0, iV 0, iV 0, iV 0, bV false, bV false, iV 0, iV 0, iV 0, iV 0, bV false, bV false, iV 0, .lit (.slice none 0 0), .lit (.slice none 0 0)], iV 1] ∧ St Zq (l) hq
theorem w53r (Γ : Glob) [Mute Γ] (a : Int)  {Z0 h : Hp} {l : List Asrt} (hs : St Z0 (l) h) : Runs Tryz.prog Γ (.call 9 [.lit (.pointer none), iV a] h) fun oq => ∃ Z', Sub Z0 Z' ∧ w53Q Γ a l Z' oq.v oq.hp := by
  refine sx_fnZ (Γ := Γ) (Q := w53Q Γ a l) Tryz.f9 Tryz.func9 (by kernel_rfl) zg3 [] ⟨1, 0, 0, 0, 0, 0⟩ (va { i := [a] }) (.new <| .ret (.tup [.agg zg0, I (.z 1)]) []) 100000 (by kernel_rfl) hs rfl ?_
  refine d_new fun bk0 => ?_
  exact d_retZ fun h hs => ⟨qg0, qg1, hs⟩
abbrev w54Q (_Γ : Glob) (_a : Int) (l : List Asrt) (Zq : Hp) (vq : SV) (hq : Hp) : Prop := (True) ∧ vq = .tuple [.agg [iV 0, iV 0, iV 0, iV 0, iV 0, iV 0, iV 0, iV 0, iV 0, sV ([] : List UInt8), iV 0, iV 0, iV 0, iV 0, sV ([] : List UInt8), bV false, iV 0, iV 0, iV 0, iV 0, iV 0, sV ([] : List UInt8), bV false, iV 0, sV ([] : List UInt8), iV 0, iV 0, iV 0, iV 0, bV false, bV false, iV 0, iV 0, iV 0, iV 0, bV false, bV false, iV 0, .lit (.slice none 0 0), .lit (.slice none 0 0)], iV 1] ∧ St Zq (l) hq
theorem w54r (Γ : Glob) [Mute Γ] (a : Int)  {Z0 h : Hp} {l : List Asrt} (hs : St Z0 (l) h) : Runs Tryz.prog Γ (.call 10 [.lit (.pointer none), iV a] h) fun oq => ∃ Z', Sub Z0 Z' ∧ w54Q Γ a l Z' oq.v oq.hp := by
  refine sx_fnZ (Γ := Γ) (Q := w54Q Γ a l) Tryz.f10 Tryz.func10 (by kernel_rfl) zg3 [] ⟨1, 0, 0, 0, 0, 0⟩ (va { i := [a] }) (.new <| .ret (.tup [.agg zg0, I (.z 1)]) []) 100000 (by kernel_rfl) hs rfl ?_
  refine d_new fun bk0 => ?_
  exact d_retZ fun h hs => ⟨qg0, qg1, hs⟩
abbrev w55Q (_Γ : Glob) (_a _b : Int) (l : List Asrt) (Zq : Hp) (vq : SV) (hq : Hp) : Prop := (True) ∧ vq = .tuple [.agg [iV 0, iV 0, iV 0, iV 0, iV 0, iV 0, iV 0, iV 0, iV 0, sV ([] : List UInt8), iV 0, iV 0, iV 0, iV 0, sV ([] : List UInt8), bV false, iV 0, iV 0, iV 0, iV 0, iV 0, sV ([] : List UInt8), bV false, iV 0, sV ([] : List UInt8), iV 0, iV 0, iV 0, iV 0, bV false, bV false, iV 0, iV 0, iV 0, iV 0, bV false, bV false, iV 0, .lit (.slice none 0 0), .lit (.slice none 0 0)], iV 1] ∧ St Zq (l) hq
theorem w55r (Γ : Glob) [Mute Γ] (a b : Int)  {Z0 h : Hp} {l : List Asrt} (hs : St Z0 (l) h) : Runs Tryz.prog Γ (.call 11 [.lit (.pointer none), .agg [iV a, iV b]] h) fun oq => ∃ Z', Sub Z0 Z' ∧ w55Q Γ a b l Z' oq.v oq.hp := by
  refine sx_fnZ (Γ := Γ) (Q := w55Q Γ a b l) Tryz.f11 Tryz.func11 (by kernel_rfl) [.lit (.pointer none), .agg [I (.v 0), I (.v 1)]] [] ⟨2, 0, 0, 0, 0, 0⟩ (va { i := [a, b] }) (.new <| .new <| .ret (.tup [.agg zg0, I (.z 1)]) []) 100000 (by kernel_rfl) hs rfl ?_
  refine d_new fun bk0 => ?_
  refine d_new fun bk1 => ?_
  exact d_retZ fun h hs => ⟨qg0, qg1, hs⟩
abbrev w56Q (_Γ : Glob) (_u0 _u1 : List UInt8) (_u2 _u3 : List UInt8) (l : List Asrt) (Zq : Hp) (vq : SV) (hq : Hp) : Prop := (True) ∧ vq = iV 1 ∧ St Zq (l) hq
theorem w56r (Γ : Glob) [Mute Γ] (u0 u1 : List UInt8) (u2 u3 : List UInt8)  {Z0 h : Hp} {l : List Asrt} (hs : St Z0 (l) h) : Runs Tryz.prog Γ (.call 12 [.lit (.pointer none), .agg [iV 0, iV 0, iV 0, iV 0, iV 0, iV 0, iV 0, iV 0, iV 0, sV u0, iV 0, iV 0, iV 0, iV 0, sV u1, bV false, iV 0, iV 0, iV 0, iV 0, iV 0, sV u2, bV false, iV 0, sV u3, iV 0, iV 0, iV 0, iV 0, bV false, bV false, iV 0, iV 0, iV 0, iV 0, bV false, bV false, iV 0, .lit (.slice none 0 0), .lit (.slice none 0 0)]] h) fun oq => ∃ Z', Sub Z0 Z' ∧ w56Q Γ u0 u1 u2 u3 l Z' oq.v oq.hp := by
  refine sx_fnZ (Γ := Γ) (Q := w56Q Γ u0 u1 u2 u3 l) Tryz.f12 Tryz.func12 (by kernel_rfl) [.lit (.pointer none), .agg [I (.z 0), I (.z 0), I (.z 0), I (.z 0), I (.z 0), I (.z 0), I (.z 0), I (.z 0), I (.z 0), .txt (.tv 0), I (.z 0), I (.z 0), I (.z 0), I (.z 0), .txt (.tv 1), .bool (.bl false), I (.z 0), I (.z 0), I (.z 0), I (.z 0), I (.z 0), .txt (.tv 2), .bool (.bl false), I (.z 0), .txt (.tv 3), I (.z 0), I (.z 0), I (.z 0), I (.z 0), .bool (.bl false), .bool (.bl false), I (.z 0), I (.z 0), I (.z 0), I (.z 0), .bool (.bl false), .bool (.bl false), I (.z 0), .lit (.slice none 0 0), .lit (.slice none 0 0)]] [] ⟨0, 4, 0, 0, 0, 0⟩ (va { t := [u0, u1, u2, u3] }) (.new <| .ret (I (.z 1)) []) 100000 (by kernel_rfl) hs rfl ?_
  refine d_new fun bk0 => ?_
  exact d_retZ fun h hs => ⟨qg0, by first | rfl | (show (iV 1 : SV) = _; simp_all), hs⟩
abbrev w57Q (_Γ : Glob) (_a _r0 _c0 : Int) (l : List Asrt) (Zq : Hp) (vq : SV) (hq : Hp) : Prop := (True) ∧ vq = .lit (.pointer none) ∧ St Zq (l) hq
theorem w57r (Γ : Glob) [Mute Γ] (a r0 c0 : Int) (h1 : a < 1 ∨ 1000 < a) {Z0 h : Hp} {l : List Asrt} (hs : St Z0 (l) h) : Runs Tryz.prog Γ (.call 18 [iV a, iV r0, iV c0] h) fun oq => ∃ Z', Sub Z0 Z' ∧ w57Q Γ a r0 c0 l Z' oq.v oq.hp := by
  refine sx_fnZ (Γ := Γ) (Q := w57Q Γ a r0 c0 l) Tryz.f18 Tryz.func18 (by kernel_rfl) [I (.v 0), I (.v 1), I (.v 2)] [] ⟨3, 0, 0, 0, 0, 0⟩ (va { i := [a, r0, c0] }) (.fork (.lt (.v 0) (.z 1)) (.ret (.lit (.pointer none)) []) <| .fork (.lt (.z 1000) (.v 0)) (.ret (.lit (.pointer none)) []) <| .new <| .ret (.ptr 0 0) []) 100000 (by kernel_rfl) hs rfl ?_
  refine d_if (fun (cd1 : a < 1) => ?_) (fun (cd1 : ¬ (a < 1)) => ?_)
  · exact d_retZ fun h hs => ⟨qg0, qg3, hs⟩
  · refine d_if (fun (cd2 : 1000 < a) => ?_) (fun (cd2 : ¬ (1000 < a)) => ?_)
    · exact d_retZ fun h hs => ⟨qg0, qg3, hs⟩
    · refine d_new fun bk0 => ?_
      exact d_retZ fun h hs => ⟨qg0, qg3, hs⟩
abbrev w58Q (_Γ : Glob)  (l : List Asrt) (Zq : Hp) (vq : SV) (hq : Hp) : Prop := ∃ C : Nat, (True) ∧ vq = .func (.func 36) [] [.ptr C 0] ∧ St Zq (own C (.cells [.lit (.pointer none)] 23) :: l) hq
theorem w58r (Γ : Glob) [Mute Γ]   {Z0 h : Hp} {l : List Asrt} (hs : St Z0 (l) h) : Runs Tryz.prog Γ (.call 13 [.lit (.pointer none)] h) fun oq => ∃ Z', Sub Z0 Z' ∧ w58Q Γ  l Z' oq.v oq.hp := by
  refine sx_fnZ (Γ := Γ) (Q := w58Q Γ  l) Tryz.f13 Tryz.func13 (by kernel_rfl) [.lit (.pointer none)] [] {} (va {  }) (.new <| .ret (.fn 36 [] [.ptr 0 0]) [.blk 0 [.lit (.pointer none)] 23]) 100000 (by kernel_rfl) hs rfl ?_
  refine d_new fun bk0 => ?_
  exact d_retZ fun h hs => ⟨bk0, qg0, by first | rfl | (show (.func (.func 36) [] [.ptr bk0 0] : SV) = _; simp_all), hs⟩
abbrev w59Q (_Γ : Glob) (P : Nat) (l : List Asrt) (Zq : Hp) (vq : SV) (hq : Hp) : Prop := ∃ C : Nat, (True) ∧ vq = .func (.func 41) [] [.ptr C 0] ∧ St Zq (own C (.cells [.ptr P 0] 59) :: l) hq
theorem w59r (Γ : Glob) [Mute Γ] (P : Nat)  {Z0 h : Hp} {l : List Asrt} (hs : St Z0 (l) h) : Runs Tryz.prog Γ (.call 15 [.ptr P 0] h) fun oq => ∃ Z', Sub Z0 Z' ∧ w59Q Γ P l Z' oq.v oq.hp := by
  refine sx_fnZ (Γ := Γ) (Q := w59Q Γ P l) Tryz.f15 Tryz.func15 (by kernel_rfl) [.ptr 0 0] [] ⟨0, 0, 0, 0, 1, 0⟩ (va { n := [P] }) (.new <| .ret (.fn 41 [] [.ptr 1 0]) [.blk 1 [.ptr 0 0] 59]) 100000 (by kernel_rfl) hs rfl ?_
  refine d_new fun bk1 => ?_
  exact d_retZ fun h hs => ⟨bk1, qg0, by first | rfl | (show (.func (.func 41) [] [.ptr bk1 0] : SV) = _; simp_all), hs⟩
theorem w60s (Γ : Glob) [Mute Γ] (C : Nat)  : SeqP Tryz.prog Γ 36 [] [.ptr C 0] (0) (fun _k : Nat => [.agg [iV 0, iV 0, iV 0, iV 0], .lit (.slice none 0 0)]) (fun _k : Nat => []) [own C (.cells [.lit (.pointer none)] 23)] [] := by
  intro Z B J0 J Q l h h0 hr hs
  refine sx_fnZ (Q := fun Z _ h => St Z ([own C (.cells [.lit (.pointer none)] 23)] ++ J (0) :: l) h ∨ St Z ([own C (.cells [.lit (.pointer none)] 23)] ++ Q :: l) h) Tryz.f36 Tryz.func36 (by kernel_rfl) [.yield 0, .ptr 1 0] [.blk 1 [.lit (.pointer none)] 23, .asr 0] ⟨0, 0, 0, 0, 2, 1⟩ (va { n := [B, C], a := [J0] }) (.swap [.asr 0] [.asr 1] ⟨0, 0, 0, 0, 2, 2⟩ <| .ret (.tup []) [.blk 1 [.lit (.pointer none)] 23, .asr 1]) 100000 (by kernel_rfl) hs rfl ?_
  refine d_swap (α := Unit) (fun (_ : Unit) => { a := [jz J 0] }) (fun (_ : Unit) => True) (fun l h hs => ⟨(), ⟨trivial, h0 _ _ _ hs⟩⟩) fun _ qs0 => ?_
  exact d_retZ fun h hs => .inl (jz_end (la := [own C (.cells [.lit (.pointer none)] 23)]) qg2 hs)
abbrev w61Q (_Γ : Glob) (a r0 c0 : Int) (l : List Asrt) (Zq : Hp) (vq : SV) (hq : Hp) : Prop := ∃ P : Nat, (True) ∧ vq = .ptr P 0 ∧ St Zq (own P (.cells [.lit (.map none), .lit (.map none), .lit (.map none), iV a, iV r0, iV c0, .lit (.slice none 0 0), .lit (.map none), .lit (.map none), .lit (.map none), .lit (.pointer none), bV false] 89) :: l) hq
theorem w61r (Γ : Glob) [Mute Γ] (a r0 c0 : Int) (h1 : 1 ≤ a ∧ a ≤ 1000) {Z0 h : Hp} {l : List Asrt} (hs : St Z0 (l) h) : Runs Tryz.prog Γ (.call 18 [iV a, iV r0, iV c0] h) fun oq => ∃ Z', Sub Z0 Z' ∧ w61Q Γ a r0 c0 l Z' oq.v oq.hp := by
  refine sx_fnZ (Γ := Γ) (Q := w61Q Γ a r0 c0 l) Tryz.f18 Tryz.func18 (by kernel_rfl) [I (.v 0), I (.v 1), I (.v 2)] [] ⟨3, 0, 0, 0, 0, 0⟩ (va { i := [a, r0, c0] }) (.fork (.lt (.v 0) (.z 1)) (.ret (.lit (.pointer none)) []) <| .fork (.lt (.z 1000) (.v 0)) (.ret (.lit (.pointer none)) []) <| .new <| .ret (.ptr 0 0) zg1) 100000 (by kernel_rfl) hs rfl ?_
  refine d_if (fun (cd1 : a < 1) => ?_) (fun (cd1 : ¬ (a < 1)) => ?_)
  · exact d_retZ fun h hs => False.elim qg2
  · refine d_if (fun (cd2 : 1000 < a) => ?_) (fun (cd2 : ¬ (1000 < a)) => ?_)
    · exact d_retZ fun h hs => False.elim qg2
    · refine d_new fun bk0 => ?_
      exact d_retZ fun h hs => ⟨bk0, qg0, by first | rfl | (show (.ptr bk0 0 : SV) = _; simp_all), hs⟩
end Go.Proofs.YtdhmljjpiainnaaGreatDoor.Sx
