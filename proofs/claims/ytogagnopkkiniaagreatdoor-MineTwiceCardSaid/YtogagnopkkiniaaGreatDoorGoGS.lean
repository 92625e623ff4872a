/-
  'slices.SortFunc' OF THE TAKERS: the kit's contract, turned into a word of the author's evaluator: the row lies sorted in its place.
-/
import Derived.Test.YtogagnopkkiniaaGreatDoorEvGI
import Derived.Test.YtogagnopkkiniaaGreatDoorGoGB
import Derived.Test.YtogagnopkkiniaaGreatDoorGoGK
import Derived.Shelf.SlSortCmp.WholeK
import Derived.Shelf.SlSortCmp.NoneTotal
import Derived.WalkKit
import Derived.KernelRfl
namespace Go.Proofs.YtogagnopkkiniaaGreatDoor.gone
open Go Go.RowKit Go.Lib Go.Sort Go.Proofs.YtogagnopkkiniaaGreatDoor.Ev

def tailV : List Value := [(.string ⟨#[]⟩), (.int .i64 0), (.int .i64 0), (.int .i64 0), (.int .i64 0), (.string ⟨#[]⟩), (.bool false), (.int .i64 0), (.int .i64 0), (.int .i64 0), (.int .i64 0), (.int .i64 0), (.string ⟨#[]⟩), (.bool false), (.int .i64 0), (.string ⟨#[]⟩), (.int .i64 0), (.int .i64 0), (.int .i64 0), (.int .i64 0), (.bool false), (.bool false), (.int .i64 0), (.int .i64 0), (.int .i64 0), (.int .i64 0), (.bool false), (.bool false), (.int .i64 0), (.slice none 0 0)]
def takV (d : D) : List Value := .int .i64 d.a :: .int .i64 d.n :: .int .i64 0 :: .int .i64 0 :: .int .i64 0 :: .int .i64 0 :: .int .i64 0 :: .int .i64 d.ta :: .int .i64 d.tn :: tailV
theorem takV_len (d : D) : (takV d).length = 39 := rfl
theorem takC_conc (θ : Go.Proofs.YtogagnopkkiniaaGreatDoor.Ev.Ren) (d : D) : concL θ (takC d) = takV d := rfl
theorem takV_one (d : D) : ∀ v ∈ takV d, v.oneCell' = true := by
  have h : (takV d).all (fun v => v.oneCell') = true := rfl
  exact fun v hv => List.all_eq_true.1 h v hv
theorem flat_conc (θ : Go.Proofs.YtogagnopkkiniaaGreatDoor.Ev.Ren) : ∀ l : List D, concL θ ((l.map takC).flatten) = (l.map takV).flatten
  | [] => rfl
  | d :: l => by rw [List.map_cons, List.flatten_cons, concL_append, takC_conc, flat_conc θ l, List.map_cons, List.flatten_cons]

set_option maxHeartbeats 4000000 in
set_option maxRecDepth 20000 in
/-- The closure that compares. -/
theorem closure (xs ys : Array Value) (a b : Int) (hx : xs[1]? = some (.int .i64 a)) (hy : ys[1]? = some (.int .i64 b)) (W : World) :
    Calls Tryz.prog 18 #[.agg xs, .agg ys] W fun e w' => e = .returned (.int .i64 (Lib.compareInt b a)) ∧ ∃ q os', w' = grow (W.drewN q) os' := by
  go_enter Tryz.func18, Tryz.ntmps18
  go_wp2
  all_goals go_ret
  all_goals refine ⟨?_, 0, _, by rw [alloc_eq_grow, alloc_eq_grow, grow_grow]; rfl⟩
  · have h : b < a := by assumption
    rw [show Lib.compareInt b a = -1 by unfold Lib.compareInt; rw [if_pos h]]
    rfl
  · have h : a < b := by assumption
    rw [show Lib.compareInt b a = 1 by unfold Lib.compareInt; rw [if_neg (by omega), if_pos h]]
    rfl
  · have h1 : a ≤ b := by assumption
    have h2 : b ≤ a := by assumption
    rw [show Lib.compareInt b a = 0 by unfold Lib.compareInt; rw [if_neg (by omega), if_neg (by omega)]]
    rfl

theorem cmpLays (blk off size : Nat) (w : World) : CmpLays Tryz.prog 18 #[] takV 39 cfD blk off size w :=
  fun _ _ _ _ x y => closure (takV x).toArray (takV y).toArray x.n y.n rfl rfl _
theorem sort_calls (ds : List D) (blk cap : Nat) (w : World) (hH : HoldsK takV 39 w blk 0 ds.toArray) (hblk : blk < w.heap.size) (hsz : ds.toArray.size < 4611686018427387904) :
    Calls Tryz.prog 17 #[.slice (some ⟨blk, 0, none⟩) ds.toArray.size cap, .func (.func 18) #[] #[]] w fun e w' => e = .returned (.tuple #[]) ∧ ∃ n os, w' = sortWorldK takV 39 w blk 0 n (sortA ds) os :=
  AnyQ.slices_SortFunc_eq sortLay 39 Tryz.isAgg42 Tryz.sizeOf42 takV takV_len takV_one cfD swoD 18 #[] blk 0 cap ds.toArray w (enters_of Tryz.func18 (by kernel_rfl) rfl) (cmpLays blk 0 ds.toArray.size w) hH hblk hsz
theorem sort_none (w : World) : Calls Tryz.prog 17 #[.slice none 0 0, .func (.func 18) #[] #[]] w fun e w' => e = .returned (.tuple #[]) ∧ w' = w :=
  AnyF.slices_SortFunc_none sortLay none 0 _ w

theorem okL_tak (K : Nat → Prop) : ∀ l : List D, SV.okL K ((l.map takC).flatten)
  | [] => trivial
  | d :: l => by
    rw [List.map_cons, List.flatten_cons]
    refine okL_append ?_ (okL_tak K l)
    exact (okL_iff _ _).2 fun v hv => by
      have h : (takC d).all (fun v => match v with | .lit _ => true | _ => false) = true := rfl
      have := List.all_eq_true.1 h v hv
      cases v <;> first | trivial | cases this

section
variable {Γ : Env} {X : Nat → Prop} {w0 : World} {θ : Go.Proofs.YtogagnopkkiniaaGreatDoor.Ev.Ren} {K : Nat → Prop} {hp : Hp} {w : World}
theorem sort_post {b cv : Nat} {ds : List D} (hr : Rep Γ X w0 θ K hp w) (hb : hp.objs.get b = some (.row ((ds.map takC).flatten) 42 ds.length cv 39)) (hsz : ds.length < 4611686018427387904) :
    Calls Tryz.prog 17 #[.slice (some ⟨θ.blk b, 0, none⟩) ds.length (ds.length + θ.cap cv), .func (.func 18) #[] #[]] w
      (CPost Γ X w0 θ K hp.next [⟨.ret, ⟨.leaf, 0, []⟩, hp.upd b (.row (((sortD ds).map takC).flatten) 42 ds.length cv 39), .lit (.tuple #[])⟩]) := by
  obtain ⟨_, _, hok, ob, hw, fr, ex, rfl, hfr, hcap⟩ := hr.obj b _ hb
  rw [flat_conc] at hw
  have hlen : ((ds.map takC).flatten).length = ((ds.map takV).flatten).length := by rw [← flat_conc θ, concL_length]
  rw [hlen] at hfr hcap
  have hH : HoldsK takV 39 w (θ.blk b) 0 ds.toArray := holdsK_of takV_len (by decide) ds hw hfr
  have hblk := (Array.getElem?_eq_some_iff.1 hw).1
  have hc := sort_calls ds (θ.blk b) (ds.length + θ.cap cv) w hH hblk (by simpa using hsz)
  rw [show ds.toArray.size = ds.length by simp] at hc
  refine hc.mono ?_
  rintro e w' ⟨rfl, n, os, rfl⟩
  have hls : (((sortA ds).toList.map takV).flatten).length = ((ds.map takV).flatten).length := by
    rw [flat_length takV takV_len, flat_length takV takV_len, Array.length_toList, sortA_size]
  refine ⟨_, List.mem_singleton_self _, θ, K, Grow.refl _ _ _, rfl, trivial, ?_⟩
  refine (hr.turn (o' := .row (((sortD ds).map takC).flatten) 42 ds.length cv 39) (ob' := .cells (((sortA ds).toList.map takV).flatten ++ ex).toArray 42 fr) hb ⟨okL_tak K _, hok.2⟩ ⟨fr, ex, ?_, ?_, ?_⟩).behind (sorted_below takV_len (by decide) ds (sortA ds) (sortA_size ds) hw n os)
  · rw [flat_conc]; rfl
  · have : (((sortD ds).map takC).flatten).length = ((ds.map takV).flatten).length := by rw [← hls, ← concL_length θ, flat_conc]; rfl
    rw [this]; exact hfr
  · have : (((sortD ds).map takC).flatten).length = ((ds.map takV).flatten).length := by rw [← hls, ← concL_length θ, flat_conc]; rfl
    rw [this]; exact hcap

theorem sortOk {args : List SV} {outs : List Out} (h : sortW args hp = some outs) (hr : Rep Γ X w0 θ K hp w) : CallsIn Fence.wide 0 Tryz.prog 17 (concL θ args).toArray w (CPost Γ X w0 θ K hp.next outs) := by
  unfold sortW at h
  split at h
  · rename_i v g a b
    cases hc : (Nat.beq g 18 && a.isEmpty && b.isEmpty) with
    | false => rw [hc] at h; cases h
    | true =>
      rw [hc, cond_true] at h
      simp only [Bool.and_eq_true] at hc
      obtain ⟨⟨c1, c2⟩, c3⟩ := hc
      obtain rfl := Nat.eq_of_beq_eq_true c1
      obtain rfl : a = #[] := Array.isEmpty_iff.1 c2
      obtain rfl : b = #[] := Array.isEmpty_iff.1 c3
      unfold sortV at h
      split at h
      · obtain rfl := Option.some.inj h
        refine callsIn_wide.2 ((sort_none w).mono ?_)
        rintro e w' ⟨rfl, rfl⟩
        exact ⟨_, List.mem_singleton_self _, θ, K, Grow.refl _ _ _, rfl, trivial, hr⟩
      · rename_i b n n' cv
        split at h
        · rename_i l e k cv' size hb
          split at h
          · rename_i hcond
            obtain ⟨h1, rfl, rfl, rfl, rfl, rfl, h7, h8⟩ := hcond
            obtain rfl := Option.some.inj h
            generalize dec k l = ds at h1 h7
            subst h7
            subst h1
            exact callsIn_wide.2 (sort_post hr hb (by omega))
          · cases h
        · cases h
      · cases h
  · cases h
end
end Go.Proofs.YtogagnopkkiniaaGreatDoor.gone
