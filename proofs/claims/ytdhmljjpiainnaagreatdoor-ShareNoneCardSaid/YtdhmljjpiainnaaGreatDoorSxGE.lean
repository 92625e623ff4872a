/-
  TREES READ: a node's place, what stands there, what lies below; by the author of this claim. | LISTS IN MEMORY PUT TOGETHER, CUT, HELD AGAINST NONE; by the author of this claim. | AXES AS CLAIMS; maps behind a value; slices made; by the author of this claim. | AXES: what their functions come to, in plain words; by the author of this claim. | AXES THAT ARE READY: what is made of them; by the author of this claim.
-/
import Derived.Test.YtdhmljjpiainnaaGreatDoorSxGF
namespace Go.Proofs.YtdhmljjpiainnaaGreatDoor.Sx
open Go Go.Proofs.YtdhmljjpiainnaaGreatDoor.Ev
theorem mx_int (a b : Int) : one ((pureRun Tryz.prog (Builtin.max_ #[3, 3] 0 #[.int .i64 a, .int .i64 b])).map .lit) = some (iV (max a b), []) := by
  have h : pureRun Tryz.prog (Builtin.max_ #[3, 3] 0 #[.int .i64 a, .int .i64 b]) = some (.int .i64 (if b > a then b else a)) := by kernel_rfl
  rw [h, show (if b > a then b else a) = max a b by split <;> omega]
  rfl
theorem mn_int (a b : Int) : one ((pureRun Tryz.prog (Builtin.min_ #[3, 3] 0 #[.int .i64 a, .int .i64 b])).map .lit) = some (iV (min a b), []) := by
  have h : pureRun Tryz.prog (Builtin.min_ #[3, 3] 0 #[.int .i64 a, .int .i64 b]) = some (.int .i64 (if b < a then b else a)) := by kernel_rfl
  rw [h, show (if b < a then b else a) = min a b by split <;> omega]
  rfl
instance : Inhabited ND := ⟨⟨0, 0, 0, 0, [], false, 0, [], 0, 0, 0, 0, false, false, 0, 0, 0, 0, false, false, 0⟩⟩
instance : Inhabited Tr := ⟨.mk default []⟩
theorem lget_get {α : Type} [Inhabited α] {L : List α} {i : Int} (h0 : 0 ≤ i) (h1 : i < L.length) : L[i.toNat]? = some (lget L i) := by
  have hi : i.toNat < L.length := by omega
  simp only [lget, List.getElem?_eq_getElem hi, Option.getD_some]
section
variable {Γ : Glob} {Z h : Hp} {L p : SV} {ks : List Tr} {t : Tr} {m : List Asrt}
end
open Go Go.Proofs.YtdhmljjpiainnaaGreatDoor.Ev
section
variable {P : Program} {Γ : Glob} {Z h : Hp} {m : List Asrt} {e : TypeId} {size : Nat} {v w : SV} {l k : List (List SV)}
theorem list_src (s : St Z (listA e size w k :: m) h) : srcCells Γ h size w = some (k.flatten, k.length) := by
  obtain ⟨hall, hh⟩ := st_list s
  have hfl := flat_len fun y hy => (hall y hy).1
  rcases hh with ⟨rfl, rfl, _⟩ | ⟨b, o, hb, _, ⟨cs, ⟨c, rfl, _, _, ho, _⟩ | ⟨c, rfl, _, ho, _⟩, ht⟩, _⟩
  · rfl
  · obtain rfl := Option.some.inj ho
    have hc : Ev.cut cs 0 (k.length * size) = some k.flatten := cut_of (by rw [List.drop_zero, ht]) hfl
    simp only [srcCells, readCells, knownCells, hb, Option.bind_some, hc]
  · obtain rfl := Option.some.inj ho
    have hc : Ev.cut cs 0 (k.length * size) = some k.flatten := cut_of (by rw [List.drop_zero, ht]) hfl
    simp only [srcCells, readCells, knownCells, hb, Option.bind_some, hc]
theorem list_cat {st : TypeId} (hst : tyU P st = some (.slice e)) (hi : InfoIs P e size) (hsz : 0 < size) (s : St Z (listA e size v l :: listA e size w k :: m) h) (hn : l.length ≤ 1900000) (hk : k.length ≤ 1900000) :
    ∃ v' H, appendE P Γ h [st, st] v w = some (oneS v', H) ∧ h.next ≤ H.next ∧ St Z (listA e size (oneS v') (l ++ k) :: listA e size w k :: m) H := by
  obtain ⟨i, z, hi, hz, his, hby, hzs⟩ := hi
  subst his
  have hsrc : srcCells Γ h i.size w = some (k.flatten, k.length) := list_src s.rot1
  obtain ⟨hall, hh⟩ := st_list s
  have hall2 := (st_list s.rot1).1
  have hfs := flat_len fun y hy => (hall y hy).1
  have hfk := flat_len fun y hy => (hall2 y hy).1
  have hcond : (Nat.ble i.bytes 1000 && Nat.ble k.length 2000000 && Nat.blt 0 i.size && Nat.beq (SV.cells (.lit z)).length i.size && Nat.beq k.flatten.length (k.length * i.size)) = true := by
    rw [Nat.ble_eq_true_of_le hby, Nat.ble_eq_true_of_le (show k.length ≤ 2000000 by omega), show Nat.blt 0 i.size = true from Nat.ble_eq_true_of_le hsz, beqN hzs, beqN hfk]
    rfl
  have hone : k.flatten.all SV.one = true := by
    rw [List.all_eq_true]
    intro x hx
    obtain ⟨y, hy, hxy⟩ := List.mem_flatten.1 hx
    exact List.all_eq_true.1 (hall2 y hy).2 x hxy
  have hnew : ∀ x ∈ l ++ k, x.length = i.size ∧ x.all SV.one = true := fun x hx => by
    rcases List.mem_append.1 hx with hx | hx
    · exact hall x hx
    · exact hall2 x hx
  have hlen : (l ++ k).length = l.length + k.length := List.length_append
  have hfl : (l ++ k).flatten = l.flatten ++ k.flatten := List.flatten_append
  have hmul : (l.length + k.length) * i.size = l.flatten.length + k.flatten.length := by rw [Nat.add_mul, hfs, hfk]
  have htk : (l.flatten ++ k.flatten).take ((l.length + k.length) * i.size) = l.flatten ++ k.flatten := by rw [hmul, ← List.length_append, List.take_length]
  have hrow : ∀ b, InBlk (some (.row (l.flatten ++ k.flatten) e (l.length + k.length) b i.size)) b e i.size (.row b 0 (l.length + k.length) (l.length + k.length) b) (l ++ k) := fun b =>
    ⟨_, .inr ⟨_, by rw [hlen], by rw [hlen]; exact Nat.le_refl _, rfl, by rw [hlen, List.length_append, hmul]; exact Nat.le_refl _⟩, by rw [hlen, htk, hfl]⟩
  have hv : ∀ b, oneS (.row b 0 (l.length + k.length) (l.length + k.length) b) = .row b 0 (l.length + k.length) (l.length + k.length) b := fun b => oneS_of rfl (by simp only [SV.same, beq_self_eq_true, Bool.and_self])
  rcases hh with ⟨rfl, rfl, s'⟩ | ⟨b, o, hb, hbn, ⟨cs, ⟨q, rfl, c1, c2, ho, hcs⟩ | ⟨q, rfl, c1, ho, hcs⟩, a4⟩, s'⟩
  · by_cases hk0 : k.length = 0
    · have hkn : k = [] := List.length_eq_zero_iff.1 hk0
      have hno : oneS (.lit (.slice none 0 0)) = .lit (.slice none 0 0) := oneS_of rfl (by simp [SV.same, litSame])
      refine ⟨.lit (.slice none 0 0), h, ?_, Nat.le_refl _, ?_⟩
      · rw [hno]
        simp only [appendE, hst, hi, hz, hsrc, isIntD, cond_false, hcond, cond_true, beqN hk0]
      · rw [hno, hkn]
        exact list_nil.2 (by rw [hkn] at s'; exact s')
    · refine ⟨.row h.next 0 (0 + k.length) (0 + k.length) h.next, _, ?_, Nat.le_succ _, list_st hnew (St.new (o := .row k.flatten e (0 + k.length) h.next i.size) s') (by rw [show oneS (.row h.next 0 (0 + k.length) (0 + k.length) h.next) = _ from hv h.next]; exact hrow h.next)⟩
      rw [show oneS (.row h.next 0 (0 + k.length) (0 + k.length) h.next) = _ from hv h.next]
      simp only [appendE, hst, hi, hz, hsrc, isIntD, cond_false, hcond, cond_true, beqF hk0, newRowE, List.length_nil, Nat.zero_add]
  · obtain rfl := Option.some.inj ho
    have hslc : ∀ n, oneS (.slice b 0 n q) = .slice b 0 n q := fun n => oneS_of rfl (by simp only [SV.same, beq_self_eq_true, Bool.and_self])
    by_cases hroom : l.length + k.length ≤ q
    · have hm : (l.length + k.length) * i.size ≤ q * i.size := Nat.mul_le_mul_right _ hroom
      rw [Nat.add_mul] at hm
      have hsp : splice cs (0 + l.length * i.size) k.flatten = some (cs.take (l.length * i.size) ++ k.flatten ++ cs.drop (l.length * i.size + k.flatten.length)) := by
        rw [Nat.zero_add]
        exact splice_of (by omega) hone
      have s2 : St Z (own b (.cells (cs.take (l.length * i.size) ++ k.flatten ++ cs.drop (l.length * i.size + k.flatten.length)) e) :: listA e i.size w k :: m) _ := St.set (l := []) s'
      refine ⟨.slice b 0 (l.length + k.length) q, ⟨h.objs.set b (.cells (cs.take (l.length * i.size) ++ k.flatten ++ cs.drop (l.length * i.size + k.flatten.length)) e), h.next⟩, ?_, Nat.le_refl _, list_st hnew s2 ⟨_, .inl ⟨q, by rw [hlen, hslc], by rw [hlen]; exact hroom, c2, rfl, ?_⟩, ?_⟩⟩
      · rw [hslc]
        simp only [appendE, hst, hi, hz, hsrc, isIntD, cond_false, hcond, cond_true, Nat.ble_eq_true_of_le c2, Nat.ble_eq_true_of_le c1, Bool.and_self, Nat.ble_eq_true_of_le hroom, hb, hsp, Option.map_some, Hp.upd]
      · simp only [List.length_append, List.length_take, List.length_drop]
        omega
      · have e1 : (cs.take (l.length * i.size) ++ k.flatten).length = (l ++ k).length * i.size := by
          rw [hlen, List.length_append, List.length_take, Nat.add_mul, hfk, Nat.min_eq_left (by omega)]
        rw [← e1, List.take_left, a4, hfl]
    · have hread : readCells Γ h (.ptr b 0) (l.length * i.size) = some (l.flatten, [.cells b 0 l.flatten]) := by
        have : Ev.cut cs 0 (l.length * i.size) = some l.flatten := cut_of (by rw [List.drop_zero, a4]) hfs
        simp only [readCells, knownCells, hb, Option.bind_some, this]
      have hno : Nat.ble (l.length + k.length) q = false := by
        cases hh : Nat.ble (l.length + k.length) q with
        | false => rfl
        | true => exact absurd (Nat.le_of_ble_eq_true hh) hroom
      refine ⟨.row h.next 0 (l.length + k.length) (l.length + k.length) h.next, _, ?_, Nat.le_succ _, list_st hnew (St.new (o := .row (l.flatten ++ k.flatten) e (l.length + k.length) h.next i.size) (s'.drop (l := [_]))) (by rw [hv h.next]; exact hrow h.next)⟩
      rw [hv h.next]
      simp only [appendE, hst, hi, hz, hsrc, isIntD, cond_false, hcond, cond_true, Nat.ble_eq_true_of_le c2, Nat.ble_eq_true_of_le c1, Bool.and_self, hno, hread, newRowE]
  · obtain rfl := Option.some.inj ho
    by_cases hk0 : k.length = 0
    · have hkn : k = [] := List.length_eq_zero_iff.1 hk0
      have hvo : oneS (.row b 0 l.length q b) = .row b 0 l.length q b := oneS_of rfl (by simp only [SV.same, beq_self_eq_true, Bool.and_self])
      refine ⟨.row b 0 l.length q b, h, ?_, Nat.le_refl _, ?_⟩
      · rw [hvo]
        simp only [appendE, hst, hi, hz, hsrc, isIntD, cond_false, hcond, cond_true, Nat.ble_eq_true_of_le (show l.length ≤ 2000000 by omega), hb, beqN rfl, Nat.ble_eq_true_of_le c1, Nat.ble_eq_true_of_le hcs, hone, beqN hk0, Bool.and_self]
      · rw [hvo, hkn, List.append_nil]
        rw [hkn] at s
        exact s
    · have s0 : St Z (listA e i.size w k :: m) ⟨h.objs.put b none, h.next⟩ := by
        have sk : ∀ x, x ≠ b → (h.objs.put b none).get x = h.objs.get x := fun x hx => by rw [T.get_put, if_neg hx]
        obtain ⟨D, h1, ⟨h2, h3⟩, h4⟩ := s'.sep
        have hz : Z.objs.get b = none := Classical.not_not.1 (h1 b ((h2 b).2 rfl)).1
        exact ⟨fun x p he => (sk x (fun hh => by rw [hh, hz] at he; cases he)).trans (s'.frz x p he), s'.zlt, sep_less (fun x hx => .inl hx) (sep_keep (h := h) (Nat.le_refl _) (fun x _ hx => sk x fun hh => hx (.inr ((h2 x).2 hh))) h4)⟩
      refine ⟨.row h.next 0 (l.length + k.length) (l.length + k.length) h.next, _, ?_, Nat.le_succ _, list_st hnew (St.new (o := .row (l.flatten ++ k.flatten) e (l.length + k.length) h.next i.size) s0) (by rw [hv h.next]; exact hrow h.next)⟩
      rw [hv h.next]
      simp only [appendE, hst, hi, hz, hsrc, isIntD, cond_false, hcond, cond_true, Nat.ble_eq_true_of_le (show l.length ≤ 2000000 by omega), hb, beqN rfl, Nat.ble_eq_true_of_le c1, Nat.ble_eq_true_of_le hcs, hone, beqF hk0, Bool.and_self, a4, newRowE]
theorem list_own {b n : Nat} {cs : List SV} (hall : ∀ x ∈ l, x.length = size ∧ x.all SV.one = true) (hn : l.length = n) (hc : cs = l.flatten) (hb : n ≤ 2000000) (s : St Z (own b (.cells cs e) :: m) h) : St Z (listA e size (.slice b 0 n n) l :: m) h := by
  subst hn hc
  exact list_st hall s ⟨_, .inl ⟨l.length, rfl, Nat.le_refl _, hb, rfl, flat_len fun y hy => (hall y hy).1⟩, by rw [← flat_len fun y hy => (hall y hy).1, List.take_length]⟩
end
section
variable {P : Program} {Γ : Glob} {Z h : Hp} {m : List Asrt} {e : TypeId} {size : Nat} {v w : SV} {α : Type} {enc : α → List SV} {L M : List α}
theorem ls_cat {st : TypeId} (hst : tyU P st = some (.slice e)) (hi : InfoIs P e size) (hsz : 0 < size) (s : St Z (lsA e size enc v L :: lsA e size enc w M :: m) h) (hn : L.length ≤ 1900000) (hk : M.length ≤ 1900000) :
    ∃ v' H, val (appendE P Γ h [st, st] v w) = some [(oneS v', H)] ∧ h.next ≤ H.next ∧ True ∧ St Z (lsA e size enc (oneS v') (L ++ M) :: lsA e size enc w M :: m) H := by
  obtain ⟨v', H, h1, h2, h3⟩ := list_cat (Γ := Γ) hst hi hsz s (by rw [List.length_map]; exact hn) (by rw [List.length_map]; exact hk)
  exact ⟨v', H, by rw [h1]; rfl, h2, trivial, by simp only [lsA, List.map_append]; exact h3⟩
theorem ls_own {b n : Nat} {cs : List SV} (hall : ∀ x ∈ L, (enc x).length = size ∧ (enc x).all SV.one = true) (hn : L.length = n) (hc : cs = (L.map enc).flatten) (hb : n ≤ 2000000) (s : St Z (own b (.cells cs e) :: m) h) : St Z (lsA e size enc (.slice b 0 n n) L :: m) h :=
  list_own (fun x hx => by obtain ⟨y, hy, rfl⟩ := List.mem_map.1 hx; exact hall y hy) (by rw [List.length_map]; exact hn) hc hb s
end
section
variable {Γ : Glob} {Z h : Hp} {m : List Asrt} {v w L : SV} {ts us ks : List Tr}
end
open Go Go.Proofs.YtdhmljjpiainnaaGreatDoor.Ev
section
variable {κ α : Type} [DecidableEq κ]
def mpS (kc : κ → SV) (ve : α → SV) (s : SV) (L : List (κ × α)) : Asrt := exA fun m : Nat => sepA (puA (s = .map m)) (mpA kc ve m L)
end
section
variable {κ α : Type} [DecidableEq κ] {P : Program} {Z h : Hp} {m : List Asrt} {kt vt : TypeId} {kc : κ → SV} {ve : α → SV} {v : SV} {L : List (κ × α)}
theorem mps_out (s : St Z (mpS kc ve v L :: m) h) : ∃ M, v = .map M ∧ St Z (mpA kc ve M L :: m) h := by
  have _ := (inferInstance : DecidableEq κ)
  obtain ⟨M, s⟩ := st_ex.1 s
  have s := st_pu.1 (st_sep.1 s)
  exact ⟨M, s.1, s.2⟩
theorem mps_in {M : Nat} (hv : v = .map M) (s : St Z (mpA kc ve M L :: m) h) : St Z (mpS kc ve v L :: m) h := have _ := (inferInstance : DecidableEq κ); st_ex.2 ⟨M, st_sep.2 (st_pu.2 ⟨hv, s⟩)⟩
theorem mps_get2 [Inhabited α] {t : TypeId} {k : κ} {z : Value} (ht : tyU P t = some (.map kt vt)) (K : KeyOk P kt kc) (hz : tyZero P vt = some z) (hd : ve default = .lit z) (s : St Z (mpS kc ve v L :: m) h) : True ∧ ∃ fs, lookupQ P h t v (kc k) true = some (.tuple [ve (mget L k), .lit (.bool (mhas L k))], fs) := by
  obtain ⟨M, rfl, s2⟩ := mps_out s
  exact mp_get2 ht K hz hd s2
end
theorem nil_look {P : Program} {h : Hp} {t kt vt : TypeId} {k : SV} {kv z : Value} {ok : Bool} (ht : tyU P t = some (.map kt vt)) (hk : k.toLit = some kv) (hz : tyZero P vt = some z) (hc : pureRun P (Instr.checkKey true 10000 kt kv) = some ()) : lookupQ P h t (.lit (.map none)) k ok = some (bif ok then .tuple [.lit z, litBool false] else .lit z, []) := by
  have he : entriesQ h (.lit (.map none)) = some ([], []) := rfl
  simp only [lookupQ, ht, hk, he, List.isEmpty_nil, hc, findQ, hz]
def isNilV : SV → Bool
  | .lit (.slice none _ _) => true
  | .lit (.map none) => true
  | _ => false
section
variable {P : Program} {Γ : Glob} {Z h : Hp} {m : List Asrt} {e : TypeId} {size : Nat} {v : SV} {α : Type} {enc : α → List SV} {L : List α}
theorem ls_isnil {t e' : TypeId} (ht : tyU P t = some (.slice e')) (hn : ∀ xo yo, binQ P .eql t xo yo (.lit (.slice none 0 0)) (.lit (.slice none 0 0)) = some (bV true)) (s : St Z (lsA e size enc v L :: m) h) : (isNilV v = true → L = []) ∧ ∃ fs, ∀ xo yo, one (binQ P .eql t xo yo v (.lit (.slice none 0 0))) = some (bV (isNilV v), fs) := by
  rcases (st_list s).2 with ⟨rfl, hl, _⟩ | ⟨b, o, _, _, ⟨_, ⟨c, rfl, _⟩ | ⟨c, rfl, _⟩, _⟩, _⟩
  · exact ⟨fun _ => List.map_eq_nil_iff.1 hl, [], fun xo yo => by rw [hn]; rfl⟩
  · exact ⟨fun hh => (by cases hh), [], fun xo yo => by simp only [binQ, SV.toLit, refEq, ht]; rfl⟩
  · exact ⟨fun hh => (by cases hh), [], fun xo yo => by simp only [binQ, SV.toLit, refEq, ht]; rfl⟩
theorem repeat_flat (c : List SV) : ∀ n, repeatL c n = (List.replicate n c).flatten
  | 0 => rfl
  | n + 1 => by rw [List.replicate_succ, List.flatten_cons, ← repeat_flat c n]; rfl
theorem ls_make {t : TypeId} {n : Int} {x : α} {z : Value} (ht : tyU P t = some (.slice e)) (hi : ∃ i, P.info? e = some i ∧ i.zero = some z ∧ i.size = size ∧ i.bytes ≤ 8) (hz : SV.cells (.lit z) = enc x) (hx : (enc x).length = size) (hone : (enc x).all SV.one = true) (h0 : 0 ≤ n) (h1 : n ≤ 100000) (hs : 0 < size) (s : St Z m h) :
    ∃ v H, val (makeSliceE P h t (iV n) (iV n)) = some [(oneS v, H)] ∧ h.next ≤ H.next ∧ True ∧ St Z (lsA e size enc (oneS v) (List.replicate n.toNat x) :: m) H := by
  obtain ⟨i, hi, hz', his, hb⟩ := hi
  subst his
  obtain ⟨k, rfl⟩ := Int.eq_ofNat_of_zero_le h0
  have hk : k ≤ 100000 := by omega
  have hc : (Nat.ble k k && Nat.ble (i.bytes * k) 1048576 && Nat.ble k 1048576 && Nat.beq (SV.cells (.lit z)).length i.size) = true := by
    have : i.bytes * k ≤ 8 * 100000 := Nat.mul_le_mul hb hk
    rw [Nat.ble_eq_true_of_le (Nat.le_refl k), Nat.ble_eq_true_of_le (show i.bytes * k ≤ 1048576 by omega), Nat.ble_eq_true_of_le (show k ≤ 1048576 by omega), beqN (show (SV.cells (.lit z)).length = i.size by rw [hz, hx])]
    rfl
  have hv : oneS (.slice h.next 0 k k) = .slice h.next 0 k k := oneS_of rfl (by simp only [SV.same, beq_self_eq_true, Bool.and_self])
  have hcs : (bif Nat.beq (k * i.size) 0 then [] else repeatL (SV.cells (.lit z)) k) = ((List.replicate k x).map enc).flatten := by
    rw [List.map_replicate, ← repeat_flat, hz]
    by_cases hk0 : k = 0
    · subst hk0; rw [Nat.zero_mul]; rfl
    · rw [beqF (show k * i.size ≠ 0 from Nat.ne_of_gt (Nat.mul_pos (Nat.pos_of_ne_zero hk0) hs))]; rfl
  refine ⟨.slice h.next 0 k k, ⟨h.objs.set h.next (.cells ((List.replicate k x).map enc).flatten e), h.next + 1⟩, ?_, Nat.le_succ _, trivial, ?_⟩
  · rw [hv]
    have : makeSliceE P h t (.lit (.int .i64 (Int.ofNat k))) (.lit (.int .i64 (Int.ofNat k))) = some (.slice h.next 0 k k, ⟨h.objs.set h.next (.cells ((List.replicate k x).map enc).flatten e), h.next + 1⟩) := by
      simp only [makeSliceE, ht, hi, hz', hc, cond_true, hcs]
      rfl
    show val (makeSliceE P h t (.lit (.int .i64 (Int.ofNat k))) (.lit (.int .i64 (Int.ofNat k)))) = _
    rw [this]; rfl
  · rw [hv, Int.toNat_natCast]
    refine ls_own (fun y hy => ?_) List.length_replicate rfl (by omega) s.new
    rw [List.eq_of_mem_replicate hy]
    exact ⟨hx, hone⟩
end
abbrev IdL := Int × Int
abbrev AX := List (IdL × Bool)
abbrev idsOf (A : AX) : List IdL := A.map (·.1)
abbrev livOf (A : AX) : List Bool := A.map (·.2)
def idE (a : IdL) : List SV := [iV a.1, iV a.2]
def boE (b : Bool) : List SV := [bV b]
def inE (z : Int) : List SV := [iV z]
def idK (a : IdL) : SV := .agg [iV a.1, iV a.2]
def iiE (z : Int) : SV := iV z
def bbE (b : Bool) : SV := bV b
theorem pureRun_bind {α β : Type} (P : Program) (s : Sem α) (f : α → Sem β) : pureRun P (s >>= f) = (pureRun P s).bind fun a => pureRun P (f a) := by
  show pureRun P (s.bind f) = _
  induction s with
  | pure a => rfl
  | program k ih => exact ih P
  | mark m k ih => exact ih
  | _ => rfl
theorem pureRun_pure {α : Type} (P : Program) (a : α) : pureRun P (pure a) = some a := rfl
noncomputable def idFs : Array Field := match Tryz.prog.underlying 25 with
  | some (.struct fs) => fs
  | _ => #[]
noncomputable def idF (i : Nat) : Field := match idFs[i]? with
  | some f => f
  | none => default
theorem idFs_eq : idFs = #[idF 0, idF 1] := by kernel_rfl
theorem idU : pureRun Tryz.prog (underlying 25) = some (.struct idFs) := by kernel_rfl
theorem idHeld : Tryz.prog.stoodInHeld 25 = false := by kernel_rfl
theorem idN0 : (decide ((idF 0).name ≠ "_")) = true := by kernel_rfl
theorem idN1 : (decide ((idF 1).name ≠ "_")) = true := by kernel_rfl
theorem idT0 : (idF 0).type = 3 := by kernel_rfl
theorem idT1 : (idF 1).type = 3 := by kernel_rfl
theorem idP0 (a b : Int) : pureRun Tryz.prog (part 3 #[.int .i64 a, .int .i64 b] (idF 0).offset) = some (.int .i64 a) := by kernel_rfl
theorem idP1 (a b : Int) : pureRun Tryz.prog (part 3 #[.int .i64 a, .int .i64 b] (idF 1).offset) = some (.int .i64 b) := by kernel_rfl
theorem intEqIn (a b : Int) : pureRun Tryz.prog (Op.equalIn 9999 3 (.int .i64 a) (.int .i64 b)) = some (a == b) := by kernel_rfl
set_option maxRecDepth 100000 in
theorem idEq' (a b c d : Int) : pureRun Tryz.prog (Op.equal 25 (.agg #[.int .i64 a, .int .i64 b]) (.agg #[.int .i64 c, .int .i64 d])) = some ((a == c) && (b == d)) := by
  have n0 : (idF 0).name ≠ "_" := of_decide_eq_true idN0
  have n1 : (idF 1).name ≠ "_" := of_decide_eq_true idN1
  have hp : pureRun Tryz.prog program = some Tryz.prog := rfl
  show pureRun Tryz.prog (Op.equalIn (9999 + 1) 25 (.agg #[.int .i64 a, .int .i64 b]) (.agg #[.int .i64 c, .int .i64 d])) = _
  rw [Op.equalIn, pureRun_bind, idU]
  simp only [Option.bind_some]
  rw [pureRun_bind, hp]
  simp only [Option.bind_some, idHeld, Bool.false_eq_true, if_false]
  rw [pureRun_bind, idFs_eq, List.forIn_toArray]
  simp only [List.forIn_cons, List.forIn_nil]
  simp only [if_pos n0, if_pos n1, pureRun_bind, idP0, Option.bind_some, idT0, idT1, intEqIn]
  cases (a == c) with
  | false => rfl
  | true =>
    simp only [Bool.not_true, Bool.false_eq_true, if_false, pureRun_pure, Option.bind_some, pureRun_bind, idP1, intEqIn]
    cases (b == d) <;> rfl
theorem keyId (e : Bool) (a b : Int) : pureRun Tryz.prog (Instr.checkKey e 10000 25 (.agg #[.int .i64 a, .int .i64 b])) = some () := by kernel_rfl
theorem idK_key : KeyOk Tryz.prog 25 idK where
  lit a := ⟨.agg #[.int .i64 a.1, .int .i64 a.2], rfl, fun e => keyId e _ _, by simp [Instr.sameBits]⟩
  eq a b v w hv hw := by
    obtain rfl : Value.agg #[.int .i64 a.1, .int .i64 a.2] = v := Option.some.inj hv
    obtain rfl : Value.agg #[.int .i64 b.1, .int .i64 b.2] = w := Option.some.inj hw
    rw [idEq']
    obtain ⟨a1, a2⟩ := a
    obtain ⟨b1, b2⟩ := b
    by_cases h1 : a1 = b1 <;> by_cases h2 : a2 = b2 <;> simp [h1, h2]
theorem idE_info : InfoIs Tryz.prog 25 2 := by
  have h : (Tryz.prog.info? 25).isSome = true := by kernel_rfl
  obtain ⟨i, hi⟩ := Option.isSome_iff_exists.1 h
  have h2 : ((Tryz.prog.info? 25).bind (·.zero)).isSome = true := by kernel_rfl
  rw [hi] at h2
  obtain ⟨z, hz⟩ := Option.isSome_iff_exists.1 h2
  have h3 : ((Tryz.prog.info? 25).map fun i => Nat.beq i.size 2 && (Nat.ble i.bytes 1000 && (i.zero.map fun z => Nat.beq (SV.cells (.lit z)).length 2).getD false)) = some true := by kernel_rfl
  have hz' : i.zero = some z := hz
  rw [hi, Option.map_some, hz', Option.map_some, Option.getD_some, Option.some.injEq, Bool.and_eq_true, Bool.and_eq_true] at h3
  exact ⟨i, z, hi, hz', Nat.eq_of_beq_eq_true h3.1, Nat.le_of_ble_eq_true h3.2.1, Nat.eq_of_beq_eq_true h3.2.2⟩
theorem boE_info : InfoIs Tryz.prog 4 1 := by
  have h : (Tryz.prog.info? 4).isSome = true := by kernel_rfl
  obtain ⟨i, hi⟩ := Option.isSome_iff_exists.1 h
  have h2 : ((Tryz.prog.info? 4).bind (·.zero)).isSome = true := by kernel_rfl
  rw [hi] at h2
  obtain ⟨z, hz⟩ := Option.isSome_iff_exists.1 h2
  have h3 : ((Tryz.prog.info? 4).map fun i => Nat.beq i.size 1 && (Nat.ble i.bytes 1000 && (i.zero.map fun z => Nat.beq (SV.cells (.lit z)).length 1).getD false)) = some true := by kernel_rfl
  have hz' : i.zero = some z := hz
  rw [hi, Option.map_some, hz', Option.map_some, Option.getD_some, Option.some.injEq, Bool.and_eq_true, Bool.and_eq_true] at h3
  exact ⟨i, z, hi, hz', Nat.eq_of_beq_eq_true h3.1, Nat.le_of_ble_eq_true h3.2.1, Nat.eq_of_beq_eq_true h3.2.2⟩
theorem inE_zero : ∃ i, Tryz.prog.info? 3 = some i ∧ i.zero = some (.int .i64 0) ∧ i.size = 1 ∧ i.bytes ≤ 8 := by
  have h : (Tryz.prog.info? 3).isSome = true := by kernel_rfl
  obtain ⟨i, hi⟩ := Option.isSome_iff_exists.1 h
  have h2 : ((Tryz.prog.info? 3).map fun i => Nat.beq i.size 1 && (Nat.ble i.bytes 8 && (match i.zero with | some (.int .i64 0) => true | _ => false))) = some true := by kernel_rfl
  rw [hi, Option.map_some, Option.some.injEq, Bool.and_eq_true, Bool.and_eq_true] at h2
  refine ⟨i, hi, ?_, Nat.eq_of_beq_eq_true h2.1, Nat.le_of_ble_eq_true h2.2.1⟩
  have h3 := h2.2.2
  split at h3
  · rename_i e; exact e
  · cases h3
def aheadsOf : AX → Int → List Int
  | [], _ => []
  | (_, b) :: A, n => n :: aheadsOf A (if b then n + 1 else n)
def alivesOf (A : AX) : List IdL := (A.filter (·.2)).map (·.1)
def spotsOf (A : AX) : List (IdL × Int) := A.zipIdx.map fun x => (x.1.1, (x.2 : Int))
def madeA (A : AX) (s a b : SV) : Asrt := sepA (mpS idK iiE s (spotsOf A)) (sepA (lsA 3 1 inE a (aheadsOf A 0)) (lsA 25 2 idE b (alivesOf A)))
def noneA (s a b : SV) : Asrt := puA (s = .lit (.map none) ∧ a = .lit (.slice none 0 0) ∧ b = .lit (.slice none 0 0))
def axA (p : Nat) (A : AX) : Asrt := exA fun x : SV × SV × SV × SV × SV × Bool => sepA (own p (.cells [oneS x.1, oneS x.2.1, oneS x.2.2.1, oneS x.2.2.2.1, oneS x.2.2.2.2.1] 204)) (sepA (lsA 25 2 idE (oneS x.1) (A.map (·.1))) (sepA (lsA 4 1 boE (oneS x.2.1) (A.map (·.2))) (yA x.2.2.2.2.2 (madeA A (oneS x.2.2.1) (oneS x.2.2.2.1) (oneS x.2.2.2.2.1)) (noneA (oneS x.2.2.1) (oneS x.2.2.2.1) (oneS x.2.2.2.2.1)))))
section
variable {Z h : Hp} {l : List Asrt} {p : Nat} {A : AX} {x y s a b : SV} {q : Bool}
theorem ax_open (s : St Z (axA p A :: l) h) : ∃ (x y s a b : SV) (q : Bool), True ∧ St Z (own p (.cells [oneS x, oneS y, oneS s, oneS a, oneS b] 204) :: lsA 25 2 idE (oneS x) (A.map (·.1)) :: lsA 4 1 boE (oneS y) (A.map (·.2)) :: yA q (madeA A (oneS s) (oneS a) (oneS b)) (noneA (oneS s) (oneS a) (oneS b)) :: l) h := by
  obtain ⟨⟨x, y, c, a, b, q⟩, s⟩ := st_ex.1 s
  have s := st_sep.1 s
  have s := st_sep.1 s.rot1
  have s := st_sep.1 s.rot1
  exact ⟨x, y, c, a, b, q, trivial, s.perm (by
    classical
    exact List.perm_iff_count.2 fun a => by simp only [List.count_cons]; omega)⟩
theorem ax_isniln {P : Program} {t k e : TypeId} (ht : tyU P t = some (.map k e)) (hn : ∀ xo yo, binQ P .neq t xo yo (.lit (.map none)) (.lit (.map none)) = some (bV false)) (w : St Z (yA q (madeA A s a b) (noneA s a b) :: l) h) : True ∧ ∃ fs, ∀ xo yo, one (binQ P .neq t xo yo s (.lit (.map none))) = some (bV q, fs) := by
  refine ⟨trivial, [], fun xo yo => ?_⟩
  cases q with
  | true =>
    obtain ⟨M, rfl, _⟩ := mps_out (st_sep.1 (show St Z (madeA A s a b :: l) h from w))
    simp only [binQ, SV.toLit, refEq, ht]; rfl
  | false =>
    obtain ⟨⟨rfl, _⟩, _⟩ := st_pu.1 (show St Z (noneA s a b :: l) h from w)
    rw [hn]; rfl
theorem made_out (w : St Z (madeA A s a b :: l) h) : St Z (mpS idK iiE s (spotsOf A) :: lsA 3 1 inE a (aheadsOf A 0) :: lsA 25 2 idE b (alivesOf A) :: l) h := by
  have w := st_sep.1 w
  have w := st_sep.1 w.rot1
  exact w.perm (by
    classical
    exact List.perm_iff_count.2 fun a => by simp only [List.count_cons]; omega)
theorem made_in (w : St Z (mpS idK iiE s (spotsOf A) :: lsA 3 1 inE a (aheadsOf A 0) :: lsA 25 2 idE b (alivesOf A) :: l) h) : St Z (madeA A s a b :: l) h := by
  refine st_sep.2 (St.rot1 (st_sep.2 (w.perm ?_)))
  classical
  exact List.perm_iff_count.2 fun a => by simp only [List.count_cons]; omega
theorem ax_close (w : St Z (own p (.cells [oneS x, oneS y, oneS s, oneS a, oneS b] 204) :: lsA 25 2 idE (oneS x) (A.map (·.1)) :: lsA 4 1 boE (oneS y) (A.map (·.2)) :: yA q (madeA A (oneS s) (oneS a) (oneS b)) (noneA (oneS s) (oneS a) (oneS b)) :: l) h) : St Z (axA p A :: l) h := by
  refine st_ex.2 ⟨⟨x, y, s, a, b, q⟩, st_sep.2 (St.rot1 (st_sep.2 (St.rot1 (st_sep.2 (w.perm ?_)))))⟩
  classical
  exact List.perm_iff_count.2 fun a => by simp only [List.count_cons]; omega
theorem ax_none (w : St Z (own p (.cells [oneS x, oneS y, .lit (.map none), .lit (.slice none 0 0), .lit (.slice none 0 0)] 204) :: lsA 25 2 idE (oneS x) (A.map (·.1)) :: lsA 4 1 boE (oneS y) (A.map (·.2)) :: l) h) : St Z (axA p A :: l) h := by
  have h1 : oneS (.lit (.map none)) = .lit (.map none) := oneS_of rfl (by simp [SV.same, litSame])
  have h2 : oneS (.lit (.slice none 0 0)) = .lit (.slice none 0 0) := oneS_of rfl (by simp [SV.same, litSame])
  refine ax_close (x := x) (y := y) (s := .lit (.map none)) (a := .lit (.slice none 0 0)) (b := .lit (.slice none 0 0)) (q := false) ?_
  rw [h1, h2]
  have w2 : St Z (noneA (.lit (.map none)) (.lit (.slice none 0 0)) (.lit (.slice none 0 0)) :: _) h := st_pu.2 ⟨⟨rfl, rfl, rfl⟩, w⟩
  exact w2.perm (by
    classical
    exact List.perm_iff_count.2 fun a => by simp only [yA, cond_false, List.count_cons]; omega)
end
open Go Go.Proofs.YtdhmljjpiainnaaGreatDoor.Ev
section
variable {κ α : Type} [DecidableEq κ]
theorem mgetO_mset {k x : κ} {v : α} : ∀ {L : List (κ × α)}, mgetO (mset L k v) x = if x = k then some v else mgetO L x := by
  rw [mset_is]
  intro L
  induction L with
  | nil => simp only [mset0, mgetO]
  | cons a l ih =>
    obtain ⟨a, y⟩ := a
    by_cases h : k = a
    · subst h
      simp only [mset0, if_true, mgetO]
      by_cases hx : x = k
      · simp [hx]
      · simp [hx]
    · simp only [mset0, if_neg h, mgetO, ih]
      by_cases hx : x = a
      · have hk : ¬ x = k := fun e => h (by rw [← e, hx])
        subst hx
        rw [if_pos rfl, if_neg hk, if_pos rfl]
      · simp [hx]
theorem mget_mset [Inhabited α] {k x : κ} {v : α} {L : List (κ × α)} : mget (mset L k v) x = if x = k then v else mget L x := by
  unfold mget
  rw [mgetO_mset]
  split <;> rfl
end
theorem take_snoc {α : Type} [Inhabited α] {L : List α} {i : Int} (h0 : 0 ≤ i) (h1 : i < L.length) : L.take (i + 1).toNat = L.take i.toNat ++ [lget L i] := by
  have hi : i.toNat < L.length := by omega
  rw [show (i + 1).toNat = i.toNat + 1 by omega, List.take_succ_eq_append_getElem hi]
  simp only [lget, List.getElem?_eq_getElem hi, Option.getD_some]
theorem lget_in {α : Type} [Inhabited α] {L : List α} {i : Int} (h0 : 0 ≤ i) (h1 : i < L.length) : lget L i ∈ L := List.mem_of_getElem? (lget_get h0 h1)
theorem nodup_take {α : Type} [Inhabited α] {L : List α} {i : Int} (hn : L.Nodup) (h0 : 0 ≤ i) (h1 : i < L.length) : lget L i ∉ L.take i.toNat := by
  have hi : i.toNat < L.length := by omega
  have := take_snoc h0 h1
  have h2 : (L.take (i + 1).toNat).Nodup := hn.sublist (List.take_sublist _ _)
  rw [this] at h2
  exact fun hm => (List.nodup_append.1 h2).2.2 _ hm _ (List.mem_singleton.2 rfl) rfl
structure NewI (L : List IdL) (i : Int) (X : List IdL) (Y : List Bool) (C : List (IdL × Bool)) : Prop where
  a : 0 ≤ i
  b : i ≤ L.length
  c : X = L.take i.toNat
  d : (X.length : Int) = i
  e : Y = X.map (fun _ => true)
  f : ∀ x : IdL, mget C x = true → x ∈ X
section
variable {L X : List IdL} {i : Int} {Y : List Bool} {C : List (IdL × Bool)}
theorem new_0 : NewI L 0 [] [] [] := ⟨Int.le_refl _, by omega, rfl, rfl, rfl, fun x h => by simp [mget, mgetO] at h⟩
theorem new_step (h : NewI L i X Y C) (h1 : i < L.length) : NewI L (i + 1) (X ++ [((lget L i).1, (lget L i).2)]) (Y ++ [true]) (mset C ((lget L i).1, (lget L i).2) true) := by
  obtain ⟨a, b, c, d, e, f⟩ := h
  refine ⟨by omega, by omega, by rw [take_snoc a h1, c], by simp only [List.length_append, List.length_cons, List.length_nil]; omega, by rw [e]; simp, fun x hx => ?_⟩
  rw [mget_mset] at hx
  by_cases hk : x = ((lget L i).1, (lget L i).2)
  · rw [hk]; simp
  · rw [if_neg hk] at hx
    exact List.mem_append_left _ (f x hx)
theorem new_fresh (h : NewI L i X Y C) (h1 : i < L.length) (hn : L.Nodup) (hz : ((0, 0) : IdL) ∉ L) : mget C ((lget L i).1, (lget L i).2) = false ∧ ¬ ((lget L i).1 = 0 ∧ (lget L i).2 = 0) := by
  obtain ⟨a, b, c, d, e, f⟩ := h
  refine ⟨?_, fun hh => hz ?_⟩
  · cases hc : mget C ((lget L i).1, (lget L i).2) with
    | false => rfl
    | true =>
      have := f _ hc
      rw [c] at this
      exact absurd this (nodup_take hn a h1)
  · have := lget_in (L := L) a h1
    rw [show lget L i = ((lget L i).1, (lget L i).2) from rfl, hh.1, hh.2] at this
    exact this
theorem new_end (h : NewI L i X Y C) (h1 : ¬ i < L.length) : X.zip Y = L.map (fun x => (x, true)) := by
  obtain ⟨a, b, c, d, e, f⟩ := h
  rw [e, c, List.take_of_length_le (by omega)]
  clear c d e f a b h1
  induction L with
  | nil => rfl
  | cons x l ih => simp [ih]
end
section
variable {Z h : Hp} {l : List Asrt} {p : Nat} {I : List IdL} {B : List Bool} {x y : SV}
theorem zip_fst' {α β : Type} : ∀ {I : List α} {B : List β}, I.length = B.length → (I.zip B).map (·.1) = I
  | [], [], _ => rfl
  | a :: I, b :: B, h => by simp [zip_fst' (I := I) (B := B) (by simpa using h)]
theorem zip_snd' {α β : Type} : ∀ {I : List α} {B : List β}, I.length = B.length → (I.zip B).map (·.2) = B
  | [], [], _ => rfl
  | a :: I, b :: B, h => by simp [zip_snd' (I := I) (B := B) (by simpa using h)]
theorem ax_nonez (he : I.length = B.length) (w : St Z (own p (.cells [oneS x, oneS y, .lit (.map none), .lit (.slice none 0 0), .lit (.slice none 0 0)] 204) :: lsA 25 2 idE (oneS x) I :: lsA 4 1 boE (oneS y) B :: l) h) : St Z (axA p (I.zip B) :: l) h := by
  refine ax_none (x := x) (y := y) ?_
  rw [zip_fst' he, zip_snd' he]
  exact w
end
open Go Go.Proofs.YtdhmljjpiainnaaGreatDoor.Ev
def axR (p : Nat) (A : AX) : Asrt := exA fun x : SV × SV × SV × SV × SV => sepA (own p (.cells [oneS x.1, oneS x.2.1, oneS x.2.2.1, oneS x.2.2.2.1, oneS x.2.2.2.2] 204)) (sepA (lsA 25 2 idE (oneS x.1) (A.map (·.1))) (sepA (lsA 4 1 boE (oneS x.2.1) (A.map (·.2))) (madeA A (oneS x.2.2.1) (oneS x.2.2.2.1) (oneS x.2.2.2.2))))
section
variable {Z h : Hp} {l : List Asrt} {p : Nat} {A : AX} {x y s a b : SV}
theorem axr_close (w : St Z (own p (.cells [oneS x, oneS y, oneS s, oneS a, oneS b] 204) :: lsA 25 2 idE (oneS x) (A.map (·.1)) :: lsA 4 1 boE (oneS y) (A.map (·.2)) :: madeA A (oneS s) (oneS a) (oneS b) :: l) h) : St Z (axR p A :: l) h := by
  refine st_ex.2 ⟨⟨x, y, s, a, b⟩, st_sep.2 (St.rot1 (st_sep.2 (St.rot1 (st_sep.2 (w.perm ?_)))))⟩
  classical
  exact List.perm_iff_count.2 fun a => by simp only [List.count_cons]; omega
theorem axr_open (s : St Z (axR p A :: l) h) : ∃ (x y s a b : SV), True ∧ St Z (own p (.cells [oneS x, oneS y, oneS s, oneS a, oneS b] 204) :: lsA 25 2 idE (oneS x) (A.map (·.1)) :: lsA 4 1 boE (oneS y) (A.map (·.2)) :: mpS idK iiE (oneS s) (spotsOf A) :: lsA 3 1 inE (oneS a) (aheadsOf A 0) :: lsA 25 2 idE (oneS b) (alivesOf A) :: l) h := by
  obtain ⟨⟨x, y, c, a, b⟩, s⟩ := st_ex.1 s
  have s := st_sep.1 s
  have s := st_sep.1 s.rot1
  have s := st_sep.1 s.rot1
  have s := made_out s.rot1
  exact ⟨x, y, c, a, b, trivial, s.perm (by
    classical
    exact List.perm_iff_count.2 fun a => by simp only [List.count_cons]; omega)⟩
theorem axr_closeO (w : St Z (own p (.cells [oneS x, oneS y, oneS s, oneS a, oneS b] 204) :: lsA 25 2 idE (oneS x) (A.map (·.1)) :: lsA 4 1 boE (oneS y) (A.map (·.2)) :: mpS idK iiE (oneS s) (spotsOf A) :: lsA 3 1 inE (oneS a) (aheadsOf A 0) :: lsA 25 2 idE (oneS b) (alivesOf A) :: l) h) : St Z (axR p A :: l) h := by
  refine axr_close (x := x) (y := y) (s := s) (a := a) (b := b) ?_
  have w2 := made_in (w.perm (l' := mpS idK iiE (oneS s) (spotsOf A) :: lsA 3 1 inE (oneS a) (aheadsOf A 0) :: lsA 25 2 idE (oneS b) (alivesOf A) :: own p (.cells [oneS x, oneS y, oneS s, oneS a, oneS b] 204) :: lsA 25 2 idE (oneS x) (A.map (·.1)) :: lsA 4 1 boE (oneS y) (A.map (·.2)) :: l) (by
    classical
    exact List.perm_iff_count.2 fun a => by simp only [List.count_cons]; omega))
  exact w2.perm (by
    classical
    exact List.perm_iff_count.2 fun a => by simp only [List.count_cons]; omega)
theorem axr_made {M : Nat} {C : List (IdL × Int)} {H : List Int} {V : List IdL} (e : C = spotsOf A ∧ H = aheadsOf A 0 ∧ V = alivesOf A) (w : St Z (own p (.cells [oneS x, oneS y, .map M, oneS a, oneS b] 204) :: lsA 25 2 idE (oneS x) (A.map (·.1)) :: lsA 4 1 boE (oneS y) (A.map (·.2)) :: mpA idK iiE M C :: lsA 3 1 inE (oneS a) H :: lsA 25 2 idE (oneS b) V :: l) h) : St Z (axR p A :: l) h := by
  obtain ⟨rfl, rfl, rfl⟩ := e
  have hM : oneS (.map M) = .map M := oneS_of rfl (by simp [SV.same])
  refine axr_closeO (x := x) (y := y) (s := .map M) (a := a) (b := b) ?_
  rw [hM]
  have w2 := mps_in (v := .map M) rfl (w.perm (l' := mpA idK iiE M (spotsOf A) :: own p (.cells [oneS x, oneS y, .map M, oneS a, oneS b] 204) :: lsA 25 2 idE (oneS x) (A.map (·.1)) :: lsA 4 1 boE (oneS y) (A.map (·.2)) :: lsA 3 1 inE (oneS a) (aheadsOf A 0) :: lsA 25 2 idE (oneS b) (alivesOf A) :: l) (by
    classical
    exact List.perm_iff_count.2 fun a => by simp only [List.count_cons]; omega))
  exact w2.perm (by
    classical
    exact List.perm_iff_count.2 fun a => by simp only [List.count_cons]; omega)
theorem ax_weak (w : St Z (axR p A :: l) h) : St Z (axA p A :: l) h := by
  obtain ⟨⟨x, y, c, a, b⟩, s⟩ := st_ex.1 w
  exact st_ex.2 ⟨⟨x, y, c, a, b, true⟩, s⟩
theorem ax_closeO (w : St Z (own p (.cells [oneS x, oneS y, oneS s, oneS a, oneS b] 204) :: lsA 25 2 idE (oneS x) (A.map (·.1)) :: lsA 4 1 boE (oneS y) (A.map (·.2)) :: mpS idK iiE (oneS s) (spotsOf A) :: lsA 3 1 inE (oneS a) (aheadsOf A 0) :: lsA 25 2 idE (oneS b) (alivesOf A) :: l) h) : St Z (axA p A :: l) h := ax_weak (axr_closeO w)
theorem none_ls (w : St Z (noneA s a b :: l) h) : St Z (lsA 25 2 idE b ([] : List IdL) :: l) h := by
  obtain ⟨⟨_, _, e⟩, w2⟩ := st_pu.1 w
  rw [e]
  exact list_nil.2 w2
end
theorem ids_len (A : AX) : ((idsOf A).length : Int) = A.length := by simp [idsOf]
theorem liv_len (A : AX) : ((livOf A).length : Int) = A.length := by simp [livOf]
theorem spots_snoc (A : AX) (x : IdL × Bool) : spotsOf (A ++ [x]) = spotsOf A ++ [(x.1, (A.length : Int))] := by
  simp [spotsOf, List.zipIdx_append]
theorem spots_keys (A : AX) : (spotsOf A).map (·.1) = A.map (·.1) := by
  unfold spotsOf
  rw [List.map_map]
  have : ∀ (A : AX) (n : Nat), (A.zipIdx n).map (Prod.fst ∘ fun x : (IdL × Bool) × Nat => (x.1.1, (x.2 : Int))) = A.map (·.1) := by
    intro A
    induction A with
    | nil => intro n; rfl
    | cons a l ih => intro n; simp only [List.zipIdx_cons, List.map_cons, ih]; rfl
  exact this A 0
theorem mgetO_no {κ α : Type} [DecidableEq κ] {k : κ} : ∀ {L : List (κ × α)}, k ∉ L.map (·.1) → mgetO L k = none
  | [], _ => rfl
  | (a, x) :: l, h => by
    rw [List.map_cons] at h
    have h1 : k ≠ a := fun e => h (by rw [e]; exact List.mem_cons_self ..)
    rw [mgetO, if_neg h1]
    exact mgetO_no fun hm => h (List.mem_cons_of_mem _ hm)
theorem alives_snoc (A : AX) (x : IdL × Bool) : alivesOf (A ++ [x]) = alivesOf A ++ (if x.2 = true then [x.1] else []) := by
  unfold alivesOf
  rw [List.filter_append, List.map_append]
  congr 1
  cases h : x.2 <;> simp [h]
theorem aheads_len : ∀ (A : AX) (n : Int), (aheadsOf A n).length = A.length
  | [], _ => rfl
  | (a, b) :: A, n => by simp only [aheadsOf, List.length_cons, aheads_len A]
theorem aheads_at : ∀ (A : AX) (n : Int) (i : Nat), i < A.length → (aheadsOf A n)[i]? = some (n + ((alivesOf (A.take i)).length : Int))
  | [], _, i, h => by simp at h
  | (a, b) :: A, n, 0, _ => by simp [aheadsOf, alivesOf]
  | (a, b) :: A, n, i + 1, h => by
    rw [aheadsOf, List.getElem?_cons_succ, aheads_at A _ i (by simpa using h), List.take_succ_cons]
    congr 1
    unfold alivesOf
    cases b <;> simp
    omega
def placeOf (A : AX) (x : IdL) : Int × Bool := if mhas (spotsOf A) x && lget (livOf A) (mget (spotsOf A) x) then (lget (aheadsOf A 0) (mget (spotsOf A) x), true) else (0, false)
theorem spots_rng {A : AX} {x : IdL} (h : mhas (spotsOf A) x = true) : 0 ≤ mget (spotsOf A) x ∧ mget (spotsOf A) x < A.length := by
  have key : ∀ (L : List (IdL × Int)) (n : Int), (∀ y ∈ L, 0 ≤ y.2 ∧ y.2 < n) → (mgetO L x).isSome = true → 0 ≤ (mgetO L x).getD default ∧ (mgetO L x).getD default < n := by
    intro L n
    induction L with
    | nil => intro _ h; simp [mgetO] at h
    | cons a l ih =>
      intro h1 h2
      obtain ⟨a, y⟩ := a
      unfold mgetO at h2 ⊢
      split
      · exact h1 (a, y) (List.mem_cons_self ..)
      · rename_i e
        rw [if_neg e] at h2
        exact ih (fun z hz => h1 z (List.mem_cons_of_mem _ hz)) h2
  refine key (spotsOf A) A.length (fun y hy => ?_) h
  obtain ⟨z, hz, rfl⟩ := List.mem_map.1 hy
  have := List.mem_zipIdx hz
  simp only
  omega
structure ReadyI (A : AX) (i : Int) (C : List (IdL × Int)) (H : List Int) (V : List IdL) : Prop where
  a : C = spotsOf (A.take i.toNat)
  b : V = alivesOf (A.take i.toNat)
  c : ∀ k : Nat, (k : Int) < i → H[k]? = (aheadsOf A 0)[k]?
section
variable {A : AX} {i : Int} {C : List (IdL × Int)} {H : List Int} {V : List IdL}
theorem ready_0 : ReadyI A 0 [] (List.replicate (Int.toNat (A.map (·.1)).length) 0) [] := ⟨rfl, rfl, fun k hk => by omega⟩
theorem ready_step (w : ReadyI A i C H V) (h0 : 0 ≤ i) (h1 : i < A.length) (hn : (A.map (·.1)).Nodup) (hl : (H.length : Int) = A.length) {b : Bool} (hb : b = (lget A i).2) {id : IdL} (hid : id = (lget A i).1) : ReadyI A (i + 1) (mset C id i) (lset H i (V.length : Int)) (V ++ (if b = true then [id] else [])) := by
  obtain ⟨w1, w2, w3⟩ := w
  subst hb hid
  have ht := take_snoc (L := A) h0 h1
  have hi : i.toNat < A.length := by omega
  have hln : (A.take i.toNat).length = i.toNat := by rw [List.length_take, Nat.min_eq_left (by omega)]
  refine ⟨?_, ?_, fun k hk => ?_⟩
  · rw [ht, spots_snoc, w1, mset_is, mset_new, hln]
    · rw [show ((i.toNat : Nat) : Int) = i by omega]
    · refine mgetO_no ?_
      rw [spots_keys]
      have h2 : ((A.take (i + 1).toNat).map (·.1)).Nodup := hn.sublist ((List.take_sublist _ _).map _)
      rw [ht, List.map_append] at h2
      exact fun hm => (List.nodup_append.1 h2).2.2 _ hm _ (by simp) rfl
  · rw [ht, alives_snoc, w2]
  · unfold lset
    by_cases hk2 : (k : Int) < i
    · rw [List.getElem?_set_ne (by omega)]
      exact w3 k hk2
    · have hk3 : k = i.toNat := by omega
      subst hk3
      rw [List.getElem?_set_self (by omega), aheads_at A 0 _ hi, w2]
      simp
theorem lget_map {α β : Type} [Inhabited α] [Inhabited β] {L : List α} {f : α → β} {i : Int} (h0 : 0 ≤ i) (h1 : i < L.length) : lget (L.map f) i = f (lget L i) := by
  have hi : i.toNat < L.length := by omega
  simp only [lget, List.getElem?_map, List.getElem?_eq_getElem hi, Option.map_some, Option.getD_some]
theorem ready_live (w : ReadyI A i C H V) (h0 : 0 ≤ i) (h1 : i < A.length) (hn : (A.map (·.1)).Nodup) (hl : (H.length : Int) = A.length) (hb : lget (livOf A) i = true) : ReadyI A (i + 1) (mset C ((lget (idsOf A) i).1, (lget (idsOf A) i).2) i) (lset H i (V.length : Int)) (V ++ [((lget (idsOf A) i).1, (lget (idsOf A) i).2)]) := by
  have := ready_step w h0 h1 hn hl (b := true) (by rw [← hb, lget_map h0 h1]) (id := lget (idsOf A) i) (lget_map h0 h1)
  exact this
theorem ready_dead (w : ReadyI A i C H V) (h0 : 0 ≤ i) (h1 : i < A.length) (hn : (A.map (·.1)).Nodup) (hl : (H.length : Int) = A.length) (hb : ¬ lget (livOf A) i = true) : ReadyI A (i + 1) (mset C ((lget (idsOf A) i).1, (lget (idsOf A) i).2) i) (lset H i (V.length : Int)) V := by
  have hb2 : lget (livOf A) i = false := by simpa using hb
  have := ready_step w h0 h1 hn hl (b := false) (by rw [← hb2, lget_map h0 h1]) (id := lget (idsOf A) i) (lget_map h0 h1)
  simpa using this
theorem ready_end (w : ReadyI A i C H V) (h1 : i = A.length) (hl : (H.length : Int) = A.length) : C = spotsOf A ∧ H = aheadsOf A 0 ∧ V = alivesOf A := by
  obtain ⟨w1, w2, w3⟩ := w
  have ht : A.take i.toNat = A := List.take_of_length_le (by omega)
  rw [ht] at w1 w2
  refine ⟨w1, List.ext_getElem? fun k => ?_, w2⟩
  by_cases hk : (k : Int) < i
  · exact w3 k hk
  · rw [List.getElem?_eq_none (by omega), List.getElem?_eq_none (by rw [aheads_len]; omega)]
end
end Go.Proofs.YtdhmljjpiainnaaGreatDoor.Sx
