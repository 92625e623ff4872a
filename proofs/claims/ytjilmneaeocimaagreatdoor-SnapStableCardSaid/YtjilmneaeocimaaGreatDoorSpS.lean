/-
  'slices.Sort' OF NUMBERS: the kit's contract, turned into a word of the author's evaluator: the row lies sorted in its place.
-/
import Derived.Test.YtjilmneaeocimaaGreatDoorEvGI
import Derived.Test.YtjilmneaeocimaaGreatDoorSpGA
import Derived.Test.YtjilmneaeocimaaGreatDoorSpLay
import Derived.Test.YtjilmneaeocimaaGreatDoorProg
import Derived.Shelf.Sort.Plain
import Derived.Shelf.Slices.In.SortNone
import Derived.WalkKit
import Derived.KernelRfl
namespace Go.Proofs.YtjilmneaeocimaaGreatDoor.snap
open Go Go.RowKit Go.Lib Go.Sort Go.Proofs.YtjilmneaeocimaaGreatDoor.Ev

theorem iv_conc (θ : Go.Proofs.YtjilmneaeocimaaGreatDoor.Ev.Ren) : ∀ zs : List Int, concL θ (zs.map iv) = zs.map (Value.int .i64)
  | [] => rfl
  | z :: zs => by
    show Value.int .i64 z :: concL θ (zs.map iv) = _
    rw [iv_conc θ zs]
    rfl
section
variable {w : World} {blk : Nat} {e : TypeId} {fr : Nat × Nat} {ex : List Value}
theorem holdsI (zs : List Int) (hw : w.heap[blk]? = some (.cells ((zs.map (Value.int .i64)) ++ ex).toArray e fr)) (hfr : frOk fr (zs.length + ex.length)) : Holds (Value.int .i64) w blk 0 zs.toArray := by
  intro j hj
  have hj' : j < zs.length := by simpa using hj
  constructor
  · simp only [World.cell?, hw]
    simp only [Option.isSome_none, Bool.false_eq_true, if_false, Nat.zero_add]
    rw [List.getElem?_toArray, List.getElem?_append_left (by simpa using hj'), List.getElem?_map, List.getElem?_eq_getElem hj']
    simp [hj']
  · simp only [World.frozen?, hw]
    have := hfr.at (0 + j) (by omega)
    simpa using this
theorem sortedI_below (ds d' : List Int) (hs : d'.length = ds.length) (hw : w.heap[blk]? = some (.cells ((ds.map (Value.int .i64)) ++ ex).toArray e fr)) (n : Nat) (os : Array Obj) :
    Below (setB w blk (.cells ((d'.map (Value.int .i64)) ++ ex).toArray e fr)).heap.size (setB w blk (.cells ((d'.map (Value.int .i64)) ++ ex).toArray e fr)) (grow (putRow (Value.int .i64) (Sort.ahead w n) blk 0 d'.toArray) os) := by
  have hblk : blk < w.heap.size := (Array.getElem?_eq_some_iff.1 hw).1
  have hsz : (setB w blk (.cells ((d'.map (Value.int .i64)) ++ ex).toArray e fr)).heap.size = w.heap.size := by simp [setB]
  have hput : putCells (Value.int .i64) 0 d'.toArray ((ds.map (Value.int .i64)) ++ ex).toArray = ((d'.map (Value.int .i64)) ++ ex).toArray := by
    apply Array.ext_getElem?
    intro j
    unfold putCells
    rw [Array.getElem?_mapIdx, List.getElem?_toArray, List.getElem?_toArray]
    by_cases hj : j < d'.length
    · have this : j < ((ds.map (Value.int .i64)) ++ ex).length := by rw [List.length_append, List.length_map]; omega
      rw [List.getElem?_append_left (l₁ := d'.map (Value.int .i64)) (by rw [List.length_map]; exact hj), List.getElem?_map, List.getElem?_eq_getElem hj, List.getElem?_eq_getElem this, Option.map_some, Option.map_some]
      simp [hj]
    · rw [List.getElem?_append_right (l₁ := d'.map (Value.int .i64)) (by rw [List.length_map]; omega), List.getElem?_append_right (by rw [List.length_map]; omega), List.length_map, List.length_map, hs]
      cases ex[j - ds.length]? with
      | none => rfl
      | some x => simp [hj]
  refine ⟨rfl, rfl, rfl, ?_, fun j hj => ?_⟩
  · rw [hsz, size_grow, size_putRow]
    exact Nat.le_add_right _ _
  · rw [hsz] at hj
    show ((putRow (Value.int .i64) (Sort.ahead w n) blk 0 d'.toArray).heap ++ os)[j]? = _
    have hp : (putRow (Value.int .i64) (Sort.ahead w n) blk 0 d'.toArray).heap = w.heap.modify blk (onCells (putCells (Value.int .i64) 0 d'.toArray)) := rfl
    rw [Array.getElem?_append_left (by rw [hp]; simpa using hj), hp, Array.getElem?_modify]
    simp only [setB]
    by_cases hjb : blk = j
    · subst hjb
      rw [if_pos rfl, hw, Option.map_some, Array.getElem?_setIfInBounds]
      simp only [if_true, hblk]
      simp only [onCells, hput]
    · rw [if_neg hjb, Array.getElem?_setIfInBounds, if_neg hjb]
end
theorem okL_iv (K : Nat → Prop) : ∀ zs : List Int, SV.okL K (zs.map iv)
  | [] => trivial
  | _ :: zs => ⟨trivial, okL_iv K zs⟩

section
variable {Γ : Env} {X : Nat → Prop} {w0 : World} {θ : Go.Proofs.YtjilmneaeocimaaGreatDoor.Ev.Ren} {K : Nat → Prop} {hp : Hp} {w : World}
theorem sort_post {b cv : Nat} {zs : List Int} (hr : Rep Γ X w0 θ K hp w) (hb : hp.objs.get b = some (.row (zs.map iv) 3 zs.length cv 1)) (hsz : zs.length < 4611686018427387904) :
    Calls Tryz.prog 45 #[.slice (some ⟨θ.blk b, 0, none⟩) zs.length (zs.length + θ.cap cv)] w
      (CPost Γ X w0 θ K hp.next [⟨.ret, ⟨.leaf, 0, []⟩, hp.upd b (.row ((zs.mergeSort fun x y => decide (x ≤ y)).map iv) 3 zs.length cv 1), .lit (.tuple #[])⟩]) := by
  obtain ⟨_, _, hok, ob, hw, fr, ex, rfl, hfr, hcap⟩ := hr.obj b _ hb
  rw [iv_conc] at hw
  have hlen : (zs.map iv).length = zs.length := List.length_map _
  rw [hlen] at hfr hcap
  have hH : Holds (Value.int .i64) w (θ.blk b) 0 zs.toArray := holdsI zs hw hfr
  have hblk := (Array.getElem?_eq_some_iff.1 hw).1
  refine (Any.slices_Sort_int sortLay (θ.blk b) 0 (zs.length + θ.cap cv) zs w hH hblk hsz).mono ?_
  rintro e w' ⟨rfl, n, os, rfl⟩
  have hls : (zs.mergeSort fun x y => decide (x ≤ y)).length = zs.length := (List.mergeSort_perm ..).length_eq
  generalize zs.mergeSort (fun x y => decide (x ≤ y)) = ss at hls
  refine ⟨_, List.mem_singleton_self _, θ, K, Grow.refl _ _ _, rfl, trivial, ?_⟩
  refine (hr.turn (o' := .row (ss.map iv) 3 zs.length cv 1) (ob' := .cells ((ss.map (Value.int .i64)) ++ ex).toArray 3 fr) hb ⟨okL_iv K _, hok.2⟩ ⟨fr, ex, ?_, ?_, ?_⟩).behind (sortedI_below zs ss hls hw n os)
  · rw [iv_conc]
  · rw [List.length_map, hls]; exact hfr
  · rw [List.length_map, hls]; exact hcap

theorem sortOk {args : List SV} {outs : List Out} (h : sortW args hp = some outs) (hr : Rep Γ X w0 θ K hp w) : CallsIn Fence.wide 0 Tryz.prog 45 (concL θ args).toArray w (CPost Γ X w0 θ K hp.next outs) := by
  unfold sortW at h
  split at h
  · rename_i v
    unfold sortV at h
    split at h
    · obtain rfl := Option.some.inj h
      refine callsIn_wide.2 ((Any.slices_Sort_int_none sortLay none 0 w).mono ?_)
      rintro e w' ⟨rfl, rfl⟩
      exact ⟨_, List.mem_singleton_self _, θ, K, Grow.refl _ _ _, rfl, trivial, hr⟩
    · rename_i b n n' cv
      split at h
      · rename_i l e k cv' size hb
        split at h
        · rename_i hcond
          obtain ⟨h1, rfl, rfl, rfl, rfl, rfl, h7, h8⟩ := hcond
          obtain rfl := Option.some.inj h
          generalize decI l = zs at h1 h7
          subst h1
          subst h7
          exact callsIn_wide.2 (sort_post hr hb (by omega))
        · cases h
      · cases h
    · cases h
  · cases h
end
end Go.Proofs.YtjilmneaeocimaaGreatDoor.snap
