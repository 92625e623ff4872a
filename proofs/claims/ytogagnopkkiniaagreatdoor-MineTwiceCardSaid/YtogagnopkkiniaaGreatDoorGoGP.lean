/-
  DEEDS THAT CAN BE READ are such as the runs ask for; by the author of this claim. No condition.
-/
import Derived.Test.YtogagnopkkiniaaGreatDoorGoGZ
import Derived.Test.YtogagnopkkiniaaGreatDoorEvGH
import Derived.Test.YtogagnopkkiniaaGreatDoorRows
import Derived.KernelRfl
namespace Go.Proofs.YtogagnopkkiniaaGreatDoor.gone
open Go Go.Proofs.YtogagnopkkiniaaGreatDoor.Ev

section
variable {H : Type} {enc : TypeId × Value → H} {w : World} {sp : Nat → Bool} {held : Bool}
theorem int_read {P : Program} {b fuel : Nat} {t : TypeId} {cs : List Value} {x : DataW H × List MemPlace} (hu : P.underlying t = some (.int .i64)) (h : DataW.trod enc P w b sp held fuel t cs = some x) : ∃ n, cs = [.int .i64 n] := by
  rcases fuel with _ | fuel
  · cases h
  · unfold DataW.trod at h
    rw [hu] at h
    split at h
    all_goals (try (rename_i hh; cases hh; done))
    all_goals (try (rename_i hh _; cases hh; done))
    all_goals (try (cases h; done))
    rename_i k k' n hk
    cases hk
    split at h
    · rename_i hc
      exact ⟨n, by rw [hc.1]⟩
    · cases h
theorem laidOut : laidOutB Tryz.prog = true := by kernel_rfl
theorem fine (t : TypeId) (ht : t < Tryz.prog.types.size) : rowFine Tryz.prog t = true := rowFine_of_laidOut laidOut ht
theorem isVarD : isVar Tryz.prog 42 = true := by kernel_rfl
theorem cellsD : Tryz.prog.cellsOf 42 = 39 := by kernel_rfl
theorem cellsI : Tryz.prog.cellsOf 24 = 2 := by kernel_rfl
theorem cells3 : Tryz.prog.cellsOf 3 = 1 := by kernel_rfl
def vInt : Value → Int
  | .int _ n => n
  | _ => 0
/-- A deed out of its cells. -/
def deedOf (cs : List Value) : D := ⟨vInt (cs.getD 0 undef), vInt (cs.getD 1 undef), vInt (cs.getD 2 undef), vInt (cs.getD 7 undef), vInt (cs.getD 8 undef)⟩
theorem nine {cs : List Value} (h : cs.length = 39) : ∃ c0 c1 c2 c3 c4 c5 c6 c7 c8 rest, cs = c0 :: c1 :: c2 :: c3 :: c4 :: c5 :: c6 :: c7 :: c8 :: rest ∧ rest.length = 30 := by
  match cs, h with
  | c0 :: c1 :: c2 :: c3 :: c4 :: c5 :: c6 :: c7 :: c8 :: rest, h => exact ⟨c0, c1, c2, c3, c4, c5, c6, c7, c8, rest, rfl, by simpa using h⟩
set_option maxRecDepth 20000 in
theorem id_read {fuel : Nat} {a b : Value} {x : DataW H × List MemPlace} (h : DataW.trod enc Tryz.prog w 0 sp held fuel 24 [a, b] = some x) : ∃ n m, a = .int .i64 n ∧ b = .int .i64 m := by
  rcases fuel with _ | fuel
  · cases h
  · obtain ⟨_, xs, _, hf⟩ := struct_read (d := x.1) (ps := x.2) Tryz.underlying24 h
    obtain ⟨y, _, hy⟩ := hf 0 _ rfl
    obtain ⟨z, _, hz⟩ := hf 1 _ rfl
    have hy : DataW.trod enc Tryz.prog w 0 sp held fuel 3 (([a, b].drop 0).take (Tryz.prog.cellsOf 3)) = some y := hy
    have hz : DataW.trod enc Tryz.prog w 0 sp held fuel 3 (([a, b].drop 1).take (Tryz.prog.cellsOf 3)) = some z := hz
    rw [cells3] at hy hz
    obtain ⟨n, hn⟩ := int_read Tryz.underlying3 hy
    obtain ⟨m, hm⟩ := int_read Tryz.underlying3 hz
    exact ⟨n, m, by simpa using hn, by simpa using hm⟩
set_option maxRecDepth 20000 in
theorem deed_read {fuel : Nat} {cs : List Value} {d : DataW H} {ps : List MemPlace} (h : DataW.trod enc Tryz.prog w 0 sp held fuel 42 cs = some (d, ps)) :
    ∃ c3 c4 c5 c6 rest, rest.length = 30 ∧ (deedC (deedOf cs) c3 c4 c5 c6 rest).all SV.one = true ∧ cs.map SV.lit = deedC (deedOf cs) c3 c4 c5 c6 rest := by
  rcases fuel with _ | fuel
  · cases h
  · have hone := trod_one fine (fuel + 1) 42 cs d ps isVarD h
    obtain ⟨hl, xs, _, hf⟩ := struct_read Tryz.underlying42 h
    rw [cellsD] at hl
    obtain ⟨c0, c1, c2, c3, c4, c5, c6, c7, c8, rest, rfl, hr⟩ := nine hl
    obtain ⟨y, _, hy⟩ := hf 0 _ rfl
    obtain ⟨z, _, hz⟩ := hf 1 _ rfl
    obtain ⟨u, _, hu⟩ := hf 3 _ rfl
    have hy : DataW.trod enc Tryz.prog w 0 sp held fuel 24 (((c0 :: c1 :: c2 :: c3 :: c4 :: c5 :: c6 :: c7 :: c8 :: rest).drop 0).take (Tryz.prog.cellsOf 24)) = some y := hy
    have hz : DataW.trod enc Tryz.prog w 0 sp held fuel 3 (((c0 :: c1 :: c2 :: c3 :: c4 :: c5 :: c6 :: c7 :: c8 :: rest).drop 2).take (Tryz.prog.cellsOf 3)) = some z := hz
    have hu : DataW.trod enc Tryz.prog w 0 sp held fuel 24 (((c0 :: c1 :: c2 :: c3 :: c4 :: c5 :: c6 :: c7 :: c8 :: rest).drop 7).take (Tryz.prog.cellsOf 24)) = some u := hu
    rw [cellsI] at hy hu
    rw [cells3] at hz
    obtain ⟨a, n, rfl, rfl⟩ := id_read (a := c0) (b := c1) hy
    obtain ⟨k, hk⟩ := int_read Tryz.underlying3 hz
    obtain rfl : c2 = .int .i64 k := by simpa using hk
    obtain ⟨ta, tn, rfl, rfl⟩ := id_read (a := c7) (b := c8) hu
    refine ⟨.lit c3, .lit c4, .lit c5, .lit c6, rest.map .lit, by rw [List.length_map]; exact hr, ?_, rfl⟩
    show ((Value.int .i64 a :: .int .i64 n :: .int .i64 k :: c3 :: c4 :: c5 :: c6 :: .int .i64 ta :: .int .i64 tn :: rest).map SV.lit).all SV.one = true
    rw [List.all_map, List.all_eq_true]
    exact hone
theorem slice_val {P : Program} {r : Reach} {b : Nat} {t e : TypeId} {v : Value} (hu : P.underlying t = some (.slice e)) (h : Value.okWide P w r b t v) : v.cells.toList = [v] := by
  unfold Value.okWide at h
  rw [hu] at h
  have := cell_one h
  cases v <;> first | rfl | (simp [oneOf] at this)
set_option maxRecDepth 20000 in
/-- A list of deeds that came in. -/
theorem list_read {r : Reach} {b : Nat} {v : Value} {d : DataW H} {ps : List MemPlace} (hok : Value.okWide Tryz.prog w r b 22 v) (h : DataW.Trod enc Tryz.prog w 0 sp held 22 v d ps) : ∃ ds, GL (allTab w) (.lit v) ds := by
  obtain ⟨fuel, h⟩ := h
  rw [slice_val Tryz.underlying22 hok] at h
  rcases fuel with _ | fuel
  · cases h
  · rcases slice_read Tryz.underlying22 (by rw [cellsD]; decide) h with ⟨p, cap, hv⟩ | ⟨g, off, cap, ks, hv, _, hk⟩
    · obtain rfl : v = .slice p 0 cap := by simpa using hv
      exact ⟨[], .inl ⟨p, cap, rfl, rfl⟩⟩
    · obtain rfl : v = .slice (some ⟨g, off, none⟩) ks.length cap := by simpa using hv
      refine ⟨ks.map fun x => deedOf x.1, .inr ⟨g, off, cap, by rw [List.length_map], fun k d hd => ?_⟩⟩
      rw [List.getElem?_map, Option.map_eq_some_iff] at hd
      obtain ⟨x, hx, rfl⟩ := hd
      obtain ⟨_, ⟨ps', ht⟩, hrd⟩ := hk k x hx
      obtain ⟨c3, c4, c5, c6, rest, h1, h2, h3⟩ := deed_read ht
      refine ⟨c3, c4, c5, c6, rest, h1, h2, fun h' => ?_⟩
      have := hrd h'
      rw [cellsD, h3] at this
      exact this
end
end Go.Proofs.YtogagnopkkiniaaGreatDoor.gone
