/-
  THE WALK OF 'counterpanelaw29.UndoNil': the whole call by the author's own evaluator, with two calls' words shown before: the document's example (UndoNilA), and 'great' of an edit that can be read (UndoNilG).
-/
import Derived.Test.YthjkejnmjbljfaaGreatDoorUndoNilA
import Derived.Test.YthjkejnmjbljfaaGreatDoorUndoNilE
import Derived.Test.YthjkejnmjbljfaaGreatDoorUndoNilG
import Derived.Test.YthjkejnmjbljfaaGreatDoorEvOracle
namespace Go.Proofs.YthjkejnmjbljfaaGreatDoor.undoNil
open Go Go.Proofs.YthjkejnmjbljfaaGreatDoor.Ev Go.RowKit Go.WideShapes Go.ChangeShapes

def stepCells : List SV := .lit (.int .u8 0) :: opqs 0 40
/-- The words. -/
def mem : Oracle := fun f args hp =>
  bif Nat.beq f 4 then (match args with
    | [] => some (told hp [.bool true])
    | _ => none)
  else bif Nat.beq f 5 then (match args with
    | [.lit (.slice none 0 0), .slice b 0 1 1] => (match hp.objs.get b with
      | some (.cells l _) => bif SV.eqvL l stepCells then some (told hp [.bool true, .bool false]) else none
      | _ => none)
    | _ => none)
  else none

set_option maxRecDepth 100000 in
theorem f3Runs : ∀ most : Int, allTrue (runO Tryz.prog Γ0 mem 1000 (.call 3 [.agg (opqs 0 40), .lit (.int .i64 most)] ⟨.leaf, 100⟩)) = true := fun most => by kernel_rfl

/-- What is known of the edit: its cells, and that it can be read in what there was. -/
def edInv (xs : List Value) (X : Nat → Prop) (w0 : World) (θ : Ren) (K : Nat → Prop) : Prop :=
  (∀ i, i < 40 → K i ∧ oneOf (θ.opq i) = xs.getD i undef) ∧ ∃ Γx : Glob, (∀ g cs, Γx.get g = some cs → X g ∧ ∃ e fr, w0.heap[g]? = some (.cells cs.toArray e fr)) ∧ ∃ f s, IsEd Γx f (xs.map .lit) s ∧ s ≤ 1048576
def edEnv (xs : List Value) : Env where
  tab := Γ0
  inv := edInv xs
  ext := fun ⟨h1, h2⟩ he hk => ⟨fun i hi => ⟨hk i (h1 i hi).1, by rw [he.opq i (h1 i hi).1]; exact (h1 i hi).2⟩, h2⟩
  base := fun ⟨h1, Γx, h2, h3⟩ hx hw _ => ⟨h1, Γx, fun g cs hg => by
    obtain ⟨k1, e, fr, k2⟩ := h2 g cs hg
    exact ⟨hx g k1, e, fr, (hw g k1).trans k2⟩, h3⟩

theorem rep_met {Γ : Env} {X : Nat → Prop} {w0 : World} {θ : Ren} {K : Nat → Prop} {hp : Hp} {w : World} (hr : Rep Γ X w0 θ K hp w) : globMet Γ.tab w := fun g cs hg => by
  obtain ⟨k1, e, fr, k2⟩ := hr.glob g cs hg
  exact ⟨e, fr, (hr.kept g k1).trans k2⟩

theorem read_step {w : World} {g : Nat} {xs : List Value} {e : TypeId} {fr : Nat × Nat} (hl : xs.length = 40) (h : w.heap[g]? = some (.cells (Value.int .u8 0 :: xs).toArray e fr)) (hp : Hp) : readCells (allTab w) hp (.lit (.pointer (some ⟨g, 1, none⟩))) 40 = some (xs.map .lit, []) := by
  have hg : (allTab w).get g = some (Value.int .u8 0 :: xs) := allTab_spec.2 ⟨_, e, fr, h, rfl⟩
  have hc : cut ((Value.int .u8 0 :: xs).map SV.lit) 1 40 = some (xs.map .lit) := by
    have : (((Value.int .u8 0 :: xs).map SV.lit).drop 1).take 40 = xs.map SV.lit := by
      rw [List.map_cons, List.drop_one, List.tail_cons, List.take_of_length_le (by rw [List.length_map]; omega)]
    simp only [cut, this]
    rw [beq_t (by rw [List.length_map]; exact hl)]
    rfl
  simp only [readCells, hg, Option.bind_some, hc]

theorem great_calls {w : World} {g : Nat} {xs : List Value} {e : TypeId} {fr : Nat × Nat} (hl : xs.length = 40) (h : w.heap[g]? = some (.cells (Value.int .u8 0 :: xs).toArray e fr)) {f s : Nat} (hed : IsEd (allTab w) f (xs.map .lit) s) (hs : s ≤ 1048576) :
    Calls Tryz.prog 5 #[.slice none 0 0, .slice (some ⟨g, 0, none⟩) 1 1] w fun e w' => (∃ v ∈ [Value.bool true, .bool false], e = .returned v) ∧ Below w.heap.size w w' := by
  have h := calls_of_runsV (m := 0) (args := [.lit (.slice none 0 0), .lit (.slice (some ⟨g, 0, none⟩) 1 1)]) noCount mixed ⟨fun _ => 0, fun _ => 0, fun _ => 0, fun _ => .bool false⟩ (great_runs (allTab w) g f s 0 _ (read_step hl h) hed hs) (allTab_met w) ⟨trivial, trivial, trivial⟩
  simp only [concL, conc] at h
  exact h

theorem memOk (xs : List Value) (hl : xs.length = 40) : OracleOk Tryz.prog (edEnv xs) mem := by
  intro f args hp outs h
  unfold mem at h
  cases h4 : Nat.beq f 4 with
  | true =>
    obtain rfl : f = 4 := eq_of_beq h4
    rw [h4, cond_true] at h
    split at h
    · obtain rfl := Option.some.inj h
      refine ⟨⟨_, _, Tryz.func4, rfl⟩, fun X w0 θ K w hr _ => told_post hr ((awake w (rep_met hr)).mono fun e w' ⟨h1, h2⟩ => ⟨⟨_, List.mem_singleton_self _, h1⟩, h2⟩)⟩
    · cases h
  | false =>
    rw [h4, cond_false] at h
    cases h5 : Nat.beq f 5 with
    | false => rw [h5, cond_false] at h; cases h
    | true =>
      obtain rfl : f = 5 := eq_of_beq h5
      rw [h5, cond_true] at h
      split at h
      · rename_i b
        split at h
        · rename_i l e hb
          cases hq : SV.eqvL l stepCells with
          | false => rw [hq, cond_false] at h; cases h
          | true =>
            rw [hq, cond_true] at h
            obtain rfl := Option.some.inj h
            obtain rfl := eqvL_eq _ _ hq
            refine ⟨⟨_, _, Tryz.func5, rfl⟩, fun X w0 θ K w hr _ => told_post hr ?_⟩
            obtain ⟨hin, Γx, hΓ, fu, s, hed, hs⟩ := hr.inv
            obtain ⟨_, _, _, ob, hob, fr, rfl, _⟩ := hr.obj b _ hb
            have hx : concL θ (opqs 0 40) = xs := opqs_conc 40 0 (fun i hi => by rw [Nat.zero_add]; exact (hin i hi).2) hl
            have hst : concL θ stepCells = Value.int .u8 0 :: xs := by
              show conc θ (.lit (.int .u8 0)) :: concL θ (opqs 0 40) = _
              rw [hx]
              rfl
            rw [hst] at hob
            refine great_calls hl hob (IsEd.le (allTab_le fun g cs hg => ?_) _ _ _ hed) hs
            obtain ⟨k1, e', fr', k2⟩ := hΓ g cs hg
            exact ⟨e', fr', (hr.kept g k1).trans k2⟩
        · cases h
      · cases h

/-- **The whole call returns true**, for every edit that can be read, and every number. -/
theorem walk (xs : Array Value) (hn : xs.size = 40) (hc : ∀ c ∈ xs.toList, oneOf c = c) (most : Int) (w : World) (h0 : globMet Γ0 w) {f s : Nat} (hed : IsEd (allTab w) f (xs.toList.map .lit) s) (hs : s ≤ 1048576) :
    Calls Tryz.prog 3 #[.agg xs, .int .i64 most] w fun e w' => e = .returned (.bool true) ∧ Below w.heap.size w w' := by
  have hl : xs.toList.length = 40 := by simpa using hn
  have hopq : ∀ i, i < 40 → oneOf (xs.toList.getD i undef) = xs.toList.getD i undef := fun i hi => by
    refine hc _ ?_
    rw [List.getD_eq_getElem?_getD, List.getElem?_eq_getElem (by omega)]
    exact List.getElem_mem (by omega)
  have h := calls_trueO (Γ := edEnv xs.toList) noCount mixed (memOk xs.toList hl) 1000 100 3 [.agg (opqs 0 40), .lit (.int .i64 most)] ⟨fun _ => 0, fun _ => 0, fun _ => 0, fun i => xs.toList.getD i undef⟩ w (f3Runs most) h0
    ⟨fun i hi => ⟨by show i < 100; omega, hopq i hi⟩, allTab w, fun g cs hg => by
      obtain ⟨e, fr, hh⟩ := allTab_met w g cs hg
      exact ⟨(Array.getElem?_eq_some_iff.1 hh).1, e, fr, hh⟩, f, s, hed, hs⟩ ⟨opqs_ok 40 0 (by decide), trivial, trivial⟩
  have e : concL ⟨fun _ => 0, fun _ => 0, fun _ => 0, fun i => xs.toList.getD i undef⟩ (opqs 0 40) = xs.toList := opqs_conc 40 0 (fun i hi => by rw [Nat.zero_add]; exact hopq i hi) hl
  simp only [concL, conc, e] at h
  exact h
end Go.Proofs.YthjkejnmjbljfaaGreatDoor.undoNil
