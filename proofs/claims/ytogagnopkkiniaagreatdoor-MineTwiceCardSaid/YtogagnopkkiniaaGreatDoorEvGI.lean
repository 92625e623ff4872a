/-
  A ROW THAT IS SORTED IN PLACE, as the author's evaluator takes it: from the kit's word on the world to the evaluator's heap. Of any program.
-/
import Derived.Test.YtogagnopkkiniaaGreatDoorEvGH
import Derived.Shelf.GgSortFunc.InsertionK
namespace Go.Proofs.YtogagnopkkiniaaGreatDoor.Ev
open Go Go.RowKit Go.Sort

theorem flat_get {α β : Type} {k : Nat} (f : α → List β) (hk : ∀ x, (f x).length = k) (k0 : 0 < k) : ∀ (ds : List α) (j : Nat), ((ds.map f).flatten)[j]? = (ds[j / k]?).bind fun x => (f x)[j % k]?
  | [], j => by simp
  | a :: l, j => by
    rw [List.map_cons, List.flatten_cons]
    by_cases hj : j < k
    · rw [List.getElem?_append_left (by rw [hk]; exact hj), Nat.div_eq_of_lt hj, Nat.mod_eq_of_lt hj]
      rfl
    · have e : j = (j - k) + k := by omega
      rw [List.getElem?_append_right (by rw [hk]; omega), hk, flat_get f hk k0 l (j - k)]
      rw [show j / k = (j - k) / k + 1 by
        conv => lhs; rw [e]
        exact Nat.add_div_right _ k0]
      rw [show j % k = (j - k) % k by
        conv => lhs; rw [e]
        exact Nat.add_mod_right _ _]
      rfl
theorem flat_length {α β : Type} {k : Nat} (f : α → List β) (hk : ∀ x, (f x).length = k) : ∀ (ds : List α), ((ds.map f).flatten).length = ds.length * k
  | [] => by simp
  | a :: l => by
    rw [List.map_cons, List.flatten_cons, List.length_append, hk, flat_length f hk l, List.length_cons, Nat.succ_mul]
    omega

section
variable {α : Type} [Inhabited α] {k : Nat} {enc : α → List Value} {w : World} {blk : Nat} {e : TypeId} {fr : Nat × Nat} {ex : List Value}
theorem flat_at (hk : ∀ x, (enc x).length = k) (k0 : 0 < k) (ds : Array α) (j : Nat) (hj : j < ds.size * k) : ((ds.toList.map enc).flatten)[j]? = some ((enc ds[j / k]!)[j % k]!) := by
  have hd : j / k < ds.size := Nat.div_lt_of_lt_mul (by rw [Nat.mul_comm]; exact hj)
  rw [flat_get enc hk k0, List.getElem?_eq_getElem (by simpa using hd), Option.bind_some]
  have hm : j % k < (enc ds[j / k]!).length := by rw [hk]; exact Nat.mod_lt _ k0
  rw [show ds.toList[j / k]'(by simpa using hd) = ds[j / k]! by rw [getElem!_pos ds (j / k) hd]; simp]
  rw [List.getElem?_eq_getElem hm, getElem!_pos (enc ds[j / k]!) (j % k) hm]
/-- What the block holds, in the kit's word. -/
theorem holdsK_of (hk : ∀ x, (enc x).length = k) (k0 : 0 < k) (ds : List α) (hw : w.heap[blk]? = some (.cells ((ds.map enc).flatten ++ ex).toArray e fr)) (hfr : frOk fr (((ds.map enc).flatten).length + ex.length)) : HoldsK enc k w blk 0 ds.toArray := by
  intro j hj
  rw [size_flatK] at hj
  have hj' : j < ds.length * k := by simpa using hj
  have hlen := flat_length enc hk ds
  have hat := flat_at (enc := enc) hk k0 ds.toArray j hj
  constructor
  · simp only [World.cell?, hw]
    rw [get_flatK _ _ _ _ hj]
    simp only [Option.isSome_none, Bool.false_eq_true, if_false, Nat.zero_add, id]
    rw [List.getElem?_toArray, List.getElem?_append_left (by rw [hlen]; exact hj')]
    exact hat
  · simp only [World.frozen?, hw]
    have := hfr.at (0 + j) (by rw [hlen]; omega)
    simpa using this
/-- The world behind a sort: the block is turned. -/
theorem sorted_below (hk : ∀ x, (enc x).length = k) (k0 : 0 < k) (ds : List α) (d' : Array α) (hs : d'.size = ds.length) (hw : w.heap[blk]? = some (.cells ((ds.map enc).flatten ++ ex).toArray e fr)) (n : Nat) (os : Array Obj) :
    Below (setB w blk (.cells ((d'.toList.map enc).flatten ++ ex).toArray e fr)).heap.size (setB w blk (.cells ((d'.toList.map enc).flatten ++ ex).toArray e fr)) (sortWorldK enc k w blk 0 n d' os) := by
  have hlen := flat_length enc hk ds
  have hlen' := flat_length enc hk d'.toList
  have hblk : blk < w.heap.size := (Array.getElem?_eq_some_iff.1 hw).1
  have hsz : (setB w blk (.cells ((d'.toList.map enc).flatten ++ ex).toArray e fr)).heap.size = w.heap.size := by simp [setB]
  have hput : putCells id 0 (flatK enc k d') ((ds.map enc).flatten ++ ex).toArray = ((d'.toList.map enc).flatten ++ ex).toArray := by
    apply Array.ext_getElem?
    intro j
    unfold putCells
    rw [Array.getElem?_mapIdx, size_flatK, Nat.zero_add, List.getElem?_toArray, List.getElem?_toArray]
    by_cases hj : j < d'.size * k
    · have hR : ((d'.toList.map enc).flatten ++ ex)[j]? = some ((enc d'[j / k]!)[j % k]!) := by
        rw [List.getElem?_append_left (by rw [hlen', Array.length_toList]; exact hj)]
        exact flat_at hk k0 d' j hj
      have this : j < ((ds.map enc).flatten ++ ex).length := by rw [List.length_append, hlen, ← hs]; omega
      rw [hR, List.getElem?_eq_getElem this, Option.map_some]
      rw [if_pos ⟨Nat.zero_le _, hj⟩, Nat.sub_zero, get_flatK _ _ _ _ hj]
      rfl
    · have hR : ((d'.toList.map enc).flatten ++ ex)[j]? = ex[j - ds.length * k]? := by
        rw [List.getElem?_append_right (by rw [hlen', Array.length_toList]; omega), hlen', Array.length_toList, hs]
      have hL : ((ds.map enc).flatten ++ ex)[j]? = ex[j - ds.length * k]? := by
        rw [List.getElem?_append_right (by rw [hlen, ← hs]; omega), hlen]
      rw [hR, hL]
      cases ex[j - ds.length * k]? with
      | none => rfl
      | some x => simp [hj]
  refine ⟨rfl, rfl, rfl, ?_, fun j hj => ?_⟩
  · rw [hsz]
    unfold sortWorldK putRowK
    rw [size_grow, size_putRow]
    exact Nat.le_add_right _ _
  · rw [hsz] at hj
    unfold sortWorldK putRowK
    show ((putRow id (Sort.ahead w n) blk 0 (flatK enc k d')).heap ++ os)[j]? = _
    have hp : (putRow id (Sort.ahead w n) blk 0 (flatK enc k d')).heap = w.heap.modify blk (onCells (putCells id 0 (flatK enc k d'))) := rfl
    rw [Array.getElem?_append_left (by rw [hp]; simpa using hj), hp, Array.getElem?_modify]
    simp only [setB]
    by_cases hjb : blk = j
    · subst hjb
      rw [if_pos rfl, hw, Option.map_some, Array.getElem?_setIfInBounds]
      simp only [if_true, hblk]
      simp only [onCells, hput]
    · rw [if_neg hjb, Array.getElem?_setIfInBounds, if_neg hjb]
end
end Go.Proofs.YtogagnopkkiniaaGreatDoor.Ev
