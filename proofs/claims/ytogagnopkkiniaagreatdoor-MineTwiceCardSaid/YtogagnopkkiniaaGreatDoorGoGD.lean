/-
  LISTS OF DEEDS THAT CAME IN; printed by the author's gen_gone.py, in the calculus of runs.
-/
import Derived.Test.YtogagnopkkiniaaGreatDoorGoGC
namespace Go.Proofs.YtogagnopkkiniaaGreatDoor.gone
open Go Go.Proofs.YtogagnopkkiniaaGreatDoor.Ev

theorem cut_take {l r : List SV} {o n k : Nat} (h : cut l o n = some r) (hk : k ≤ n) : cut l o k = some (r.take k) := by
  simp only [cut] at h ⊢
  cases hb : Nat.beq ((l.drop o).take n).length n with
  | false => rw [hb] at h; cases h
  | true =>
    rw [hb, cond_true, Option.some.injEq] at h
    subst h
    have hl := Nat.eq_of_beq_eq_true hb
    rw [List.take_take, Nat.min_eq_left hk]
    have : ((l.drop o).take k).length = k := by
      rw [List.length_take] at hl ⊢
      omega
    rw [beq_t this, cond_true]
/-- A list of deeds that came in. -/
def GL (Γ : Glob) (L : SV) (ds : List D) : Prop :=
  (∃ p c, L = .lit (.slice p 0 c) ∧ ds = []) ∨ ∃ g off cap, L = .lit (.slice (some ⟨g, off, none⟩) ds.length cap) ∧ ∀ k d, ds[k]? = some d → ∃ c3 c4 c5 c6 rest, rest.length = 30 ∧ (deedC d c3 c4 c5 c6 rest).all SV.one = true ∧
    ∀ h', readCells Γ h' (.lit (.pointer (some ⟨g, off + k * 39, none⟩))) 39 = some (deedC d c3 c4 c5 c6 rest, [])
set_option maxRecDepth 10000 in
theorem litLen (h : Hp) (p : Option Addr) (n c : Nat) : lenQ Tryz.prog h 22 (.lit (.slice p n c)) = some (.lit (.int .i64 (Int.ofNat n)), []) := rfl
theorem litIdx {g off n c k : Nat} (h : k < n) : indexAddrQ Tryz.prog 22 (.lit (.slice (some ⟨g, off, none⟩) n c)) (.lit (.int .i64 (Int.ofNat k))) = some (.lit (.pointer (some ⟨g, off + k * 39, none⟩))) := by
  simp only [indexAddrQ, tyDeeds, szDeed, idxQ]
  rw [show Nat.blt k n = true from Nat.ble_eq_true_of_le h, cond_true]
set_option maxRecDepth 10000 in
theorem aggDeed : tyAgg Tryz.prog 42 = some true := rfl
set_option maxRecDepth 10000 in
theorem aggId : tyAgg Tryz.prog 24 = some true := rfl
set_option maxRecDepth 10000 in
theorem szId : tySize Tryz.prog 24 = some 2 := rfl
theorem GL.lst {Γ : Glob} {L : SV} {ds : List D} (hl : GL Γ L ds) (lo : Nat) (h : Hp) : Lst Γ lo h L ds := by
  rcases hl with ⟨p, c, rfl, rfl⟩ | ⟨g, off, cap, rfl, hr⟩
  · exact ⟨fun h' => nilDeeds h' p c, fun k d hd => by simp at hd⟩
  · refine ⟨fun h' => litLen h' _ _ _, fun k d hd => ?_⟩
    obtain ⟨c3, c4, c5, c6, rest, h1, h2, h3⟩ := hr k d hd
    refine ⟨_, c3, c4, c5, c6, rest, h1, h2, litIdx (List.getElem?_eq_some_iff.1 hd).1, fun h' _ => ⟨[], ?_⟩⟩
    simp only [loadQ, aggDeed, szDeed, h3 h']
theorem GL.id {Γ : Glob} {L : SV} {ds : List D} (hl : GL Γ L ds) {k : Nat} {d : D} (hd : ds[k]? = some d) : ∃ g o, indexAddrQ Tryz.prog 22 L (.lit (.int .i64 (Int.ofNat k))) = some (.lit (.pointer (some ⟨g, o, none⟩))) ∧ ∀ h', loadQ Tryz.prog Γ h' 24 (.lit (.pointer (some ⟨g, o, none⟩))) = some (.agg (idC d.a d.n), []) := by
  rcases hl with ⟨p, c, rfl, rfl⟩ | ⟨g, off, cap, rfl, hr⟩
  · simp at hd
  · obtain ⟨c3, c4, c5, c6, rest, h1, h2, h3⟩ := hr k d hd
    refine ⟨g, off + k * 39, litIdx (List.getElem?_eq_some_iff.1 hd).1, fun h' => ?_⟩
    have h3 := h3 h'
    simp only [readCells] at h3
    cases hg : (Γ.get g).bind fun cs => cut (cs.map .lit) (off + k * 39) 39 with
    | none => rw [hg] at h3; cases h3
    | some vs =>
      rw [hg] at h3
      simp only [Option.some.injEq, Prod.mk.injEq, and_true] at h3
      subst h3
      obtain ⟨cs, hcs, hcut⟩ := Option.bind_eq_some_iff.1 hg
      have hc2 := cut_take hcut (show 2 ≤ 39 by decide)
      simp only [loadQ, aggId, szId, readCells, hcs, Option.bind_some, hc2]
      rfl
set_option maxRecDepth 20000 in
theorem boolNe (x y : Operand) (b : Bool) : binQ Tryz.prog .neq 4 x y (.lit (.bool b)) (.lit (.bool b)) = some (.lit (.bool false)) := by cases b <;> rfl
set_option maxRecDepth 20000 in
theorem boolEq (x y : Operand) (b : Bool) : binQ Tryz.prog .eql 4 x y (.lit (.bool b)) (.lit (.bool b)) = some (.lit (.bool true)) := by cases b <;> rfl
theorem told_awake {Γ : Glob} {hp : Hp} {Φ : Out → Prop} (h : ∀ fr, Φ ⟨.ret, fr, hp, .lit (.bool true)⟩) : Runs Tryz.prog Γ (.call 4 [] hp) Φ :=
  runs_told (show theMem 4 [] hp = _ from rfl) fun o ho => by
    rw [List.mem_singleton.1 ho]
    exact h _
theorem fact_id {h : Hp} {B : Nat} {q m : Int} {e : TypeId} (hB : h.objs.get B = some (.cells (idC q m) e)) : factHolds h (.cells B 0 [.lit (.int .i64 q), .lit (.int .i64 m)]) = true := by
  have hk : knownCells h B = some (idC q m) := by simp only [knownCells, hB]
  have hc : cut (idC q m) 0 [SV.lit (.int .i64 q), SV.lit (.int .i64 m)].length = some (idC q m) := rfl
  simp only [factHolds, hk, Option.bind_some, hc]
  simp [idC, SV.sameL, SV.same, litSame]

end Go.Proofs.YtogagnopkkiniaaGreatDoor.gone
