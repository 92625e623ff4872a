/-
  A ROW THAT A RUN OWNS, of whatever length, in the evaluator's heap: how it is appended to, by the author of this claim. Of any program.
-/
import Derived.Test.YthjkejnmjbljfaaGreatDoorEvRuns
namespace Go.Proofs.YthjkejnmjbljfaaGreatDoor.Ev
open Go Go.RowKit

theorem ev_set (tm : T SV) (n : Nat) (ms : List Nat) (d t : Nat) (v : SV) : Fr.ev ⟨tm.set d v, n, ms⟩ (.tmp t) = if t = d then v else Fr.ev ⟨tm, n, ms⟩ (.tmp t) := by
  simp only [Fr.ev, T.get_set]
  by_cases h : t = d
  · rw [if_pos h, if_pos h]
  · rw [if_neg h, if_neg h]

/-- The value v is a slice of n elements of type e, of so many cells each, that lies at the head of a block of its own, whose number is at least lo. -/
def Own (h : Hp) (lo : Nat) (e : TypeId) (size : Nat) (v : SV) (n : Nat) (l : List SV) : Prop :=
  l.length = n * size ∧ l.all SV.one = true ∧ ∃ b, lo ≤ b ∧ b < h.next ∧
    ((v = .row b 0 n n b ∧ h.objs.get b = some (.row l e n b size)) ∨ (v = .slice b 0 n n ∧ h.objs.get b = some (.cells l e)))

/-- What lies ahead of a number is as it was. -/
structure Kept (lo : Nat) (h h' : Hp) : Prop where
  next : h.next ≤ h'.next
  old : ∀ b, b < lo → h'.objs.get b = h.objs.get b
theorem Kept.refl (lo : Nat) (h : Hp) : Kept lo h h := ⟨Nat.le_refl _, fun _ _ => rfl⟩
theorem Kept.trans {lo : Nat} {a b c : Hp} (h : Kept lo a b) (h' : Kept lo b c) : Kept lo a c := ⟨Nat.le_trans h.next h'.next, fun k hk => (h'.old k hk).trans (h.old k hk)⟩
theorem Kept.less {lo lo' : Nat} {a b : Hp} (h : Kept lo a b) (hl : lo' ≤ lo) : Kept lo' a b := ⟨h.next, fun k hk => h.old k (by omega)⟩

theorem cut_whole (l : List SV) : cut l 0 l.length = some l := by
  simp only [cut, List.drop_zero, List.take_length]
  rw [beq_t rfl]
  rfl

theorem Own.src {Γ : Glob} {h : Hp} {lo : Nat} {e : TypeId} {size : Nat} {v : SV} {n : Nat} {l : List SV} (ho : Own h lo e size v n l) : srcCells Γ h size v = some (l, n) := by
  obtain ⟨hl, _, b, _, _, ⟨rfl, hb⟩ | ⟨rfl, hb⟩⟩ := ho
  · simp only [srcCells, readCells, knownCells, hb, Option.bind_some]
    rw [← hl, cut_whole]
  · simp only [srcCells, readCells, knownCells, hb, Option.bind_some]
    rw [← hl, cut_whole]

/-- **append of a row to a row.** -/
theorem append_own {P : Program} {Γ : Glob} {h : Hp} {lo lo' : Nat} {st e : TypeId} {i : TypeInfo} {z : Value} {v x : SV} {n m : Nat} {l l' : List SV} (hst : tyU P st = some (.slice e)) (hi : P.info? e = some i) (hz : i.zero = some z) (hby : i.bytes ≤ 1000) (hsz : 0 < i.size) (hzs : (SV.cells (.lit z)).length = i.size)
    (hv : Own h lo e i.size v n l) (hx : Own h lo' e i.size x m l') (hm : 0 < m) (hn : n ≤ 2000000) (hm2 : m ≤ 2000000) (hlo : lo ≤ h.next) :
    ∃ v' h', appendE P Γ h [st, st] v x = some (v', h') ∧ Own h' lo e i.size v' (n + m) (l ++ l') ∧ Kept lo h h' := by
  have hsrc := hx.src (Γ := Γ)
  obtain ⟨hl, hone, b, hb0, hb1, hb⟩ := hv
  obtain ⟨hl', hone', _⟩ := hx
  have hcond : (Nat.ble i.bytes 1000 && Nat.ble m 2000000 && Nat.blt 0 i.size && Nat.beq (SV.cells (.lit z)).length i.size && Nat.beq l'.length (m * i.size)) = true := by
    rw [Nat.ble_eq_true_of_le hby, Nat.ble_eq_true_of_le hm2, show Nat.blt 0 i.size = true from Nat.ble_eq_true_of_le hsz, beq_t hzs, beq_t hl']
    rfl
  have hall : (l ++ l').all SV.one = true := by rw [List.all_append, hone, hone']; rfl
  have hlen : (l ++ l').length = (n + m) * i.size := by rw [List.length_append, hl, hl', Nat.add_mul]
  rcases hb with ⟨rfl, hb⟩ | ⟨rfl, hb⟩
  · have htake : l.take (n * i.size) = l := by rw [← hl]; exact List.take_length
    refine ⟨(newRowE ⟨h.objs.put b none, h.next⟩ (l.take (n * i.size) ++ l') e (n + m) i.size).1, (newRowE ⟨h.objs.put b none, h.next⟩ (l.take (n * i.size) ++ l') e (n + m) i.size).2, ?_, ⟨hlen, hall, h.next, hlo, Nat.lt_succ_self _, .inl ⟨rfl, ?_⟩⟩, ⟨Nat.le_succ _, fun k hk => ?_⟩⟩
    · simp only [appendE, hst, hi, hz, hsrc, isIntD, cond_false, hcond, cond_true, Nat.ble_eq_true_of_le hn, hb, beq_t rfl, Nat.ble_eq_true_of_le (Nat.le_refl _), hone', beq_f (Nat.pos_iff_ne_zero.1 hm), Bool.and_self, hl, cond_false]
    · simp only [newRowE, T.get_set, if_true, htake]
    · simp only [newRowE, T.get_set, T.get_put]
      rw [if_neg (by omega), if_neg (by omega)]
  · have hread : readCells Γ h (.ptr b 0) (n * i.size) = some (l, [.cells b 0 l]) := by
      simp only [readCells, knownCells, hb, Option.bind_some]
      rw [← hl, cut_whole]
    refine ⟨(newRowE h (l ++ l') e (n + m) i.size).1, (newRowE h (l ++ l') e (n + m) i.size).2, ?_, ⟨hlen, hall, h.next, hlo, Nat.lt_succ_self _, .inl ⟨rfl, ?_⟩⟩, ⟨Nat.le_succ _, fun k hk => ?_⟩⟩
    · have hnot : Nat.ble (n + m) n = false := by
        cases hh : Nat.ble (n + m) n with
        | false => rfl
        | true => have := Nat.le_of_ble_eq_true hh; omega
      simp only [appendE, hst, hi, hz, hsrc, isIntD, cond_false, hcond, cond_true, Nat.ble_eq_true_of_le hn, Nat.ble_eq_true_of_le (Nat.le_refl _), Bool.and_self, hnot, hread]
    · simp only [newRowE, T.get_set, if_true]
    · simp only [newRowE, T.get_set]
      rw [if_neg (by omega)]
end Go.Proofs.YthjkejnmjbljfaaGreatDoor.Ev
