/-
  TREES THAT ARE READ: their nodes' cells. | TREES THAT ARE READ: what came in as a node is a tree, no greater than its reading; by the author of this claim. | CONTENTS AND DEEDS THAT ARE READ. | LETTERS THAT ARE READ.
-/
import Derived.Test.YtcnfmcbmephdfaaGreatDoorDeA
import Derived.Test.YtcnfmcbmephdfaaGreatDoorEvGH
import Derived.KernelRfl
namespace Go.Proofs.YtcnfmcbmephdfaaGreatDoor.d
open Go Go.Proofs.YtcnfmcbmephdfaaGreatDoor.Ev Go.Proofs.YtcnfmcbmephdfaaGreatDoor.snap
noncomputable def fieldsOf (t : TypeId) : Array Field := match Tryz.prog.underlying t with
  | some (.struct fs) => fs
  | _ => #[]
noncomputable def isStruct (t : TypeId) : Bool := match Tryz.prog.underlying t with
  | some (.struct _) => true
  | _ => false
noncomputable def fieldAt (t : TypeId) (j : Nat) : Option (Nat × Nat) := ((fieldsOf t).toList[j]?).map fun f => (f.type, f.offset)
theorem und_of {t : TypeId} (h : isStruct t = true) : Tryz.prog.underlying t = some (.struct (fieldsOf t)) := by
  unfold isStruct at h
  unfold fieldsOf
  split at h
  · rename_i fs e; rw [e]
  · cases h
theorem cellsOf3 : Tryz.prog.cellsOf 3 = 1 := by kernel_rfl
theorem und3 : Tryz.prog.underlying 3 = some (.int .i64) := by kernel_rfl
theorem cellsOf4 : Tryz.prog.cellsOf 4 = 1 := by kernel_rfl
theorem und4 : Tryz.prog.underlying 4 = some (.bool) := by kernel_rfl
theorem cellsOf9 : Tryz.prog.cellsOf 9 = 1 := by kernel_rfl
theorem und9 : Tryz.prog.underlying 9 = some (.string) := by kernel_rfl
theorem cellsOf23 : Tryz.prog.cellsOf 23 = 2 := by kernel_rfl
theorem isStruct23 : isStruct 23 = true := by kernel_rfl
theorem field23_0 : fieldAt 23 0 = some (3, 0) := by kernel_rfl
theorem field23_1 : fieldAt 23 1 = some (3, 1) := by kernel_rfl
theorem cellsOf27 : Tryz.prog.cellsOf 27 = 2 := by kernel_rfl
theorem isStruct27 : isStruct 27 = true := by kernel_rfl
theorem field27_0 : fieldAt 27 0 = some (3, 0) := by kernel_rfl
theorem field27_1 : fieldAt 27 1 = some (3, 1) := by kernel_rfl
theorem cellsOf29 : Tryz.prog.cellsOf 29 = 6 := by kernel_rfl
theorem isStruct29 : isStruct 29 = true := by kernel_rfl
theorem field29_0 : fieldAt 29 0 = some (3, 0) := by kernel_rfl
theorem field29_1 : fieldAt 29 1 = some (27, 1) := by kernel_rfl
theorem field29_2 : fieldAt 29 2 = some (9, 3) := by kernel_rfl
theorem field29_3 : fieldAt 29 3 = some (4, 4) := by kernel_rfl
theorem field29_4 : fieldAt 29 4 = some (3, 5) := by kernel_rfl
theorem cellsOf31 : Tryz.prog.cellsOf 31 = 6 := by kernel_rfl
theorem isStruct31 : isStruct 31 = true := by kernel_rfl
theorem field31_0 : fieldAt 31 0 = some (23, 0) := by kernel_rfl
theorem field31_1 : fieldAt 31 1 = some (23, 2) := by kernel_rfl
theorem field31_2 : fieldAt 31 2 = some (4, 4) := by kernel_rfl
theorem field31_3 : fieldAt 31 3 = some (4, 5) := by kernel_rfl
theorem cellsOf33 : Tryz.prog.cellsOf 33 = 12 := by kernel_rfl
theorem isStruct33 : isStruct 33 = true := by kernel_rfl
theorem field33_0 : fieldAt 33 0 = some (31, 0) := by kernel_rfl
theorem field33_1 : fieldAt 33 1 = some (31, 6) := by kernel_rfl
theorem cellsOf34 : Tryz.prog.cellsOf 34 = 1 := by kernel_rfl
theorem und34 : Tryz.prog.underlying 34 = some (.slice 36) := by kernel_rfl
theorem cellsOf36 : Tryz.prog.cellsOf 36 = 22 := by kernel_rfl
theorem isStruct36 : isStruct 36 = true := by kernel_rfl
theorem field36_0 : fieldAt 36 0 = some (3, 0) := by kernel_rfl
theorem field36_1 : fieldAt 36 1 = some (29, 1) := by kernel_rfl
theorem field36_2 : fieldAt 36 2 = some (9, 7) := by kernel_rfl
theorem field36_3 : fieldAt 36 3 = some (33, 8) := by kernel_rfl
theorem field36_4 : fieldAt 36 4 = some (3, 20) := by kernel_rfl
theorem field36_5 : fieldAt 36 5 = some (34, 21) := by kernel_rfl
theorem len22 {α : Type} : ∀ {l : List α}, l.length = 22 → ∃ c0 c1 c2 c3 c4 c5 c6 c7 c8 c9 c10 c11 c12 c13 c14 c15 c16 c17 c18 c19 c20 c21, l = [c0, c1, c2, c3, c4, c5, c6, c7, c8, c9, c10, c11, c12, c13, c14, c15, c16, c17, c18, c19, c20, c21]
  | [c0, c1, c2, c3, c4, c5, c6, c7, c8, c9, c10, c11, c12, c13, c14, c15, c16, c17, c18, c19, c20, c21], _ => ⟨c0, c1, c2, c3, c4, c5, c6, c7, c8, c9, c10, c11, c12, c13, c14, c15, c16, c17, c18, c19, c20, c21, rfl⟩
section
variable {H : Type} {enc : TypeId × Value → H} {w : World} {sp : Nat → Bool} {held : Bool} {bulk : DataW H → Nat}
theorem trod_none {P : Program} {t : TypeId} {cs : List Value} {x : DataW H × List MemPlace} (h : DataW.trod enc P w 0 sp held 0 t cs = some x) : False := by cases h
theorem struct_at {fuel : Nat} {t : TypeId} {cs : List Value} {d : DataW H} {ps : List MemPlace} (hs : isStruct t = true) (h : DataW.trod enc Tryz.prog w 0 sp held fuel t cs = some (d, ps)) :
    ∃ f, f < fuel ∧ cs.length = Tryz.prog.cellsOf t ∧ ∃ xs : List (DataW H × List MemPlace), d = .agg (xs.map (·.1)) ∧ ∀ (j ty off : Nat), fieldAt t j = some (ty, off) → ∃ x, xs[j]? = some x ∧ DataW.trod enc Tryz.prog w 0 sp held f ty ((cs.drop off).take (Tryz.prog.cellsOf ty)) = some x := by
  rcases fuel with _ | fuel
  · exact (trod_none h).elim
  obtain ⟨h1, xs, h2, h3⟩ := struct_read (und_of hs) h
  refine ⟨fuel, Nat.lt_succ_self _, h1, xs, h2, fun j ty off hf => ?_⟩
  obtain ⟨f, hj, e⟩ := Option.map_eq_some_iff.1 hf
  obtain ⟨x, hx, hr⟩ := h3 j f hj
  obtain ⟨rfl, rfl⟩ := Prod.mk.inj e
  exact ⟨x, hx, hr⟩
theorem int_at {fuel : Nat} {t : TypeId} {v : Value} {x : DataW H × List MemPlace} {k : IntKind} (hu : Tryz.prog.underlying t = some (.int k)) (h : DataW.trod enc Tryz.prog w 0 sp held fuel t [v] = some x) : ∃ n, [v] = [Value.int k n] := by
  rcases fuel with _ | fuel
  · exact (trod_none h).elim
  unfold DataW.trod at h
  rw [hu] at h
  cases v <;> simp only at h
  all_goals first
    | (cases h; done)
    | (split at h
       · rename_i hc; exact ⟨_, by rw [hc.1]⟩
       · cases h)
theorem bool_at {fuel : Nat} {t : TypeId} {v : Value} {x : DataW H × List MemPlace} (hu : Tryz.prog.underlying t = some .bool) (h : DataW.trod enc Tryz.prog w 0 sp held fuel t [v] = some x) : ∃ b, [v] = [Value.bool b] := by
  rcases fuel with _ | fuel
  · exact (trod_none h).elim
  unfold DataW.trod at h
  rw [hu] at h
  cases v <;> simp only at h
  all_goals first
    | (cases h; done)
    | exact ⟨_, rfl⟩
theorem str_at {fuel : Nat} {t : TypeId} {v : Value} {x : DataW H × List MemPlace} (hu : Tryz.prog.underlying t = some .string) (h : DataW.trod enc Tryz.prog w 0 sp held fuel t [v] = some x) : ∃ l : List UInt8, [v] = [Value.string ⟨⟨l⟩⟩] := by
  rcases fuel with _ | fuel
  · exact (trod_none h).elim
  unfold DataW.trod at h
  rw [hu] at h
  cases v <;> simp only at h
  all_goals first
    | (cases h; done)
    | exact ⟨_, rfl⟩
set_option maxHeartbeats 8000000 in
set_option maxRecDepth 20000 in
theorem node_cells {fuel : Nat} {cs : List Value} {d : DataW H} {ps : List MemPlace} (b2 : ∀ (parts : List (DataW H)) (j : Nat) (x : DataW H), parts[j]? = some x → bulk x + 1 ≤ bulk (.agg parts)) (hl : cs.length = 22) (h : DataW.trod enc Tryz.prog w 0 sp held fuel 36 cs = some (d, ps)) : ∃ (x : ND) (v : Value) (d2 : DataW H) (ps2 : List MemPlace) (fu : Nat), cs.map SV.lit = x.cells (.lit v) ∧ DataW.trod enc Tryz.prog w 0 sp held fu 34 [v] = some (d2, ps2) ∧ fu < fuel ∧ bulk d2 + 1 ≤ bulk d := by
  obtain ⟨c0, c1, c2, c3, c4, c5, c6, c7, c8, c9, c10, c11, c12, c13, c14, c15, c16, c17, c18, c19, c20, c21, rfl⟩ := len22 hl
  obtain ⟨fu1, hlt1, _, xs1, hd1, hf1⟩ := struct_at isStruct36 h
  obtain ⟨x1_0, hx1_0, h1_0⟩ := hf1 0 3 0 field36_0
  rw [cellsOf3] at h1_0
  have h1_0 : DataW.trod enc Tryz.prog w 0 sp held fu1 3 [c0] = some (x1_0.1, x1_0.2) := h1_0
  obtain ⟨z0, hz0⟩ := int_at und3 h1_0
  obtain rfl : c0 = _ := by simpa using hz0
  obtain ⟨x1_1, hx1_1, h1_1⟩ := hf1 1 29 1 field36_1
  rw [cellsOf29] at h1_1
  have h1_1 : DataW.trod enc Tryz.prog w 0 sp held fu1 29 [c1, c2, c3, c4, c5, c6] = some (x1_1.1, x1_1.2) := h1_1
  obtain ⟨fu3, hlt3, _, xs3, hd3, hf3⟩ := struct_at isStruct29 h1_1
  obtain ⟨x3_0, hx3_0, h3_0⟩ := hf3 0 3 0 field29_0
  rw [cellsOf3] at h3_0
  have h3_0 : DataW.trod enc Tryz.prog w 0 sp held fu3 3 [c1] = some (x3_0.1, x3_0.2) := h3_0
  obtain ⟨z1, hz1⟩ := int_at und3 h3_0
  obtain rfl : c1 = _ := by simpa using hz1
  obtain ⟨x3_1, hx3_1, h3_1⟩ := hf3 1 27 1 field29_1
  rw [cellsOf27] at h3_1
  have h3_1 : DataW.trod enc Tryz.prog w 0 sp held fu3 27 [c2, c3] = some (x3_1.1, x3_1.2) := h3_1
  obtain ⟨fu5, hlt5, _, xs5, hd5, hf5⟩ := struct_at isStruct27 h3_1
  obtain ⟨x5_0, hx5_0, h5_0⟩ := hf5 0 3 0 field27_0
  rw [cellsOf3] at h5_0
  have h5_0 : DataW.trod enc Tryz.prog w 0 sp held fu5 3 [c2] = some (x5_0.1, x5_0.2) := h5_0
  obtain ⟨z2, hz2⟩ := int_at und3 h5_0
  obtain rfl : c2 = _ := by simpa using hz2
  obtain ⟨x5_1, hx5_1, h5_1⟩ := hf5 1 3 1 field27_1
  rw [cellsOf3] at h5_1
  have h5_1 : DataW.trod enc Tryz.prog w 0 sp held fu5 3 [c3] = some (x5_1.1, x5_1.2) := h5_1
  obtain ⟨z3, hz3⟩ := int_at und3 h5_1
  obtain rfl : c3 = _ := by simpa using hz3
  obtain ⟨x3_2, hx3_2, h3_2⟩ := hf3 2 9 3 field29_2
  rw [cellsOf9] at h3_2
  have h3_2 : DataW.trod enc Tryz.prog w 0 sp held fu3 9 [c4] = some (x3_2.1, x3_2.2) := h3_2
  obtain ⟨z4, hz4⟩ := str_at und9 h3_2
  obtain rfl : c4 = _ := by simpa using hz4
  obtain ⟨x3_3, hx3_3, h3_3⟩ := hf3 3 4 4 field29_3
  rw [cellsOf4] at h3_3
  have h3_3 : DataW.trod enc Tryz.prog w 0 sp held fu3 4 [c5] = some (x3_3.1, x3_3.2) := h3_3
  obtain ⟨z5, hz5⟩ := bool_at und4 h3_3
  obtain rfl : c5 = _ := by simpa using hz5
  obtain ⟨x3_4, hx3_4, h3_4⟩ := hf3 4 3 5 field29_4
  rw [cellsOf3] at h3_4
  have h3_4 : DataW.trod enc Tryz.prog w 0 sp held fu3 3 [c6] = some (x3_4.1, x3_4.2) := h3_4
  obtain ⟨z6, hz6⟩ := int_at und3 h3_4
  obtain rfl : c6 = _ := by simpa using hz6
  obtain ⟨x1_2, hx1_2, h1_2⟩ := hf1 2 9 7 field36_2
  rw [cellsOf9] at h1_2
  have h1_2 : DataW.trod enc Tryz.prog w 0 sp held fu1 9 [c7] = some (x1_2.1, x1_2.2) := h1_2
  obtain ⟨z7, hz7⟩ := str_at und9 h1_2
  obtain rfl : c7 = _ := by simpa using hz7
  obtain ⟨x1_3, hx1_3, h1_3⟩ := hf1 3 33 8 field36_3
  rw [cellsOf33] at h1_3
  have h1_3 : DataW.trod enc Tryz.prog w 0 sp held fu1 33 [c8, c9, c10, c11, c12, c13, c14, c15, c16, c17, c18, c19] = some (x1_3.1, x1_3.2) := h1_3
  obtain ⟨fu12, hlt12, _, xs12, hd12, hf12⟩ := struct_at isStruct33 h1_3
  obtain ⟨x12_0, hx12_0, h12_0⟩ := hf12 0 31 0 field33_0
  rw [cellsOf31] at h12_0
  have h12_0 : DataW.trod enc Tryz.prog w 0 sp held fu12 31 [c8, c9, c10, c11, c12, c13] = some (x12_0.1, x12_0.2) := h12_0
  obtain ⟨fu13, hlt13, _, xs13, hd13, hf13⟩ := struct_at isStruct31 h12_0
  obtain ⟨x13_0, hx13_0, h13_0⟩ := hf13 0 23 0 field31_0
  rw [cellsOf23] at h13_0
  have h13_0 : DataW.trod enc Tryz.prog w 0 sp held fu13 23 [c8, c9] = some (x13_0.1, x13_0.2) := h13_0
  obtain ⟨fu14, hlt14, _, xs14, hd14, hf14⟩ := struct_at isStruct23 h13_0
  obtain ⟨x14_0, hx14_0, h14_0⟩ := hf14 0 3 0 field23_0
  rw [cellsOf3] at h14_0
  have h14_0 : DataW.trod enc Tryz.prog w 0 sp held fu14 3 [c8] = some (x14_0.1, x14_0.2) := h14_0
  obtain ⟨z8, hz8⟩ := int_at und3 h14_0
  obtain rfl : c8 = _ := by simpa using hz8
  obtain ⟨x14_1, hx14_1, h14_1⟩ := hf14 1 3 1 field23_1
  rw [cellsOf3] at h14_1
  have h14_1 : DataW.trod enc Tryz.prog w 0 sp held fu14 3 [c9] = some (x14_1.1, x14_1.2) := h14_1
  obtain ⟨z9, hz9⟩ := int_at und3 h14_1
  obtain rfl : c9 = _ := by simpa using hz9
  obtain ⟨x13_1, hx13_1, h13_1⟩ := hf13 1 23 2 field31_1
  rw [cellsOf23] at h13_1
  have h13_1 : DataW.trod enc Tryz.prog w 0 sp held fu13 23 [c10, c11] = some (x13_1.1, x13_1.2) := h13_1
  obtain ⟨fu17, hlt17, _, xs17, hd17, hf17⟩ := struct_at isStruct23 h13_1
  obtain ⟨x17_0, hx17_0, h17_0⟩ := hf17 0 3 0 field23_0
  rw [cellsOf3] at h17_0
  have h17_0 : DataW.trod enc Tryz.prog w 0 sp held fu17 3 [c10] = some (x17_0.1, x17_0.2) := h17_0
  obtain ⟨z10, hz10⟩ := int_at und3 h17_0
  obtain rfl : c10 = _ := by simpa using hz10
  obtain ⟨x17_1, hx17_1, h17_1⟩ := hf17 1 3 1 field23_1
  rw [cellsOf3] at h17_1
  have h17_1 : DataW.trod enc Tryz.prog w 0 sp held fu17 3 [c11] = some (x17_1.1, x17_1.2) := h17_1
  obtain ⟨z11, hz11⟩ := int_at und3 h17_1
  obtain rfl : c11 = _ := by simpa using hz11
  obtain ⟨x13_2, hx13_2, h13_2⟩ := hf13 2 4 4 field31_2
  rw [cellsOf4] at h13_2
  have h13_2 : DataW.trod enc Tryz.prog w 0 sp held fu13 4 [c12] = some (x13_2.1, x13_2.2) := h13_2
  obtain ⟨z12, hz12⟩ := bool_at und4 h13_2
  obtain rfl : c12 = _ := by simpa using hz12
  obtain ⟨x13_3, hx13_3, h13_3⟩ := hf13 3 4 5 field31_3
  rw [cellsOf4] at h13_3
  have h13_3 : DataW.trod enc Tryz.prog w 0 sp held fu13 4 [c13] = some (x13_3.1, x13_3.2) := h13_3
  obtain ⟨z13, hz13⟩ := bool_at und4 h13_3
  obtain rfl : c13 = _ := by simpa using hz13
  obtain ⟨x12_1, hx12_1, h12_1⟩ := hf12 1 31 6 field33_1
  rw [cellsOf31] at h12_1
  have h12_1 : DataW.trod enc Tryz.prog w 0 sp held fu12 31 [c14, c15, c16, c17, c18, c19] = some (x12_1.1, x12_1.2) := h12_1
  obtain ⟨fu22, hlt22, _, xs22, hd22, hf22⟩ := struct_at isStruct31 h12_1
  obtain ⟨x22_0, hx22_0, h22_0⟩ := hf22 0 23 0 field31_0
  rw [cellsOf23] at h22_0
  have h22_0 : DataW.trod enc Tryz.prog w 0 sp held fu22 23 [c14, c15] = some (x22_0.1, x22_0.2) := h22_0
  obtain ⟨fu23, hlt23, _, xs23, hd23, hf23⟩ := struct_at isStruct23 h22_0
  obtain ⟨x23_0, hx23_0, h23_0⟩ := hf23 0 3 0 field23_0
  rw [cellsOf3] at h23_0
  have h23_0 : DataW.trod enc Tryz.prog w 0 sp held fu23 3 [c14] = some (x23_0.1, x23_0.2) := h23_0
  obtain ⟨z14, hz14⟩ := int_at und3 h23_0
  obtain rfl : c14 = _ := by simpa using hz14
  obtain ⟨x23_1, hx23_1, h23_1⟩ := hf23 1 3 1 field23_1
  rw [cellsOf3] at h23_1
  have h23_1 : DataW.trod enc Tryz.prog w 0 sp held fu23 3 [c15] = some (x23_1.1, x23_1.2) := h23_1
  obtain ⟨z15, hz15⟩ := int_at und3 h23_1
  obtain rfl : c15 = _ := by simpa using hz15
  obtain ⟨x22_1, hx22_1, h22_1⟩ := hf22 1 23 2 field31_1
  rw [cellsOf23] at h22_1
  have h22_1 : DataW.trod enc Tryz.prog w 0 sp held fu22 23 [c16, c17] = some (x22_1.1, x22_1.2) := h22_1
  obtain ⟨fu26, hlt26, _, xs26, hd26, hf26⟩ := struct_at isStruct23 h22_1
  obtain ⟨x26_0, hx26_0, h26_0⟩ := hf26 0 3 0 field23_0
  rw [cellsOf3] at h26_0
  have h26_0 : DataW.trod enc Tryz.prog w 0 sp held fu26 3 [c16] = some (x26_0.1, x26_0.2) := h26_0
  obtain ⟨z16, hz16⟩ := int_at und3 h26_0
  obtain rfl : c16 = _ := by simpa using hz16
  obtain ⟨x26_1, hx26_1, h26_1⟩ := hf26 1 3 1 field23_1
  rw [cellsOf3] at h26_1
  have h26_1 : DataW.trod enc Tryz.prog w 0 sp held fu26 3 [c17] = some (x26_1.1, x26_1.2) := h26_1
  obtain ⟨z17, hz17⟩ := int_at und3 h26_1
  obtain rfl : c17 = _ := by simpa using hz17
  obtain ⟨x22_2, hx22_2, h22_2⟩ := hf22 2 4 4 field31_2
  rw [cellsOf4] at h22_2
  have h22_2 : DataW.trod enc Tryz.prog w 0 sp held fu22 4 [c18] = some (x22_2.1, x22_2.2) := h22_2
  obtain ⟨z18, hz18⟩ := bool_at und4 h22_2
  obtain rfl : c18 = _ := by simpa using hz18
  obtain ⟨x22_3, hx22_3, h22_3⟩ := hf22 3 4 5 field31_3
  rw [cellsOf4] at h22_3
  have h22_3 : DataW.trod enc Tryz.prog w 0 sp held fu22 4 [c19] = some (x22_3.1, x22_3.2) := h22_3
  obtain ⟨z19, hz19⟩ := bool_at und4 h22_3
  obtain rfl : c19 = _ := by simpa using hz19
  obtain ⟨x1_4, hx1_4, h1_4⟩ := hf1 4 3 20 field36_4
  rw [cellsOf3] at h1_4
  have h1_4 : DataW.trod enc Tryz.prog w 0 sp held fu1 3 [c20] = some (x1_4.1, x1_4.2) := h1_4
  obtain ⟨z20, hz20⟩ := int_at und3 h1_4
  obtain rfl : c20 = _ := by simpa using hz20
  obtain ⟨x1_5, hx1_5, h1_5⟩ := hf1 5 34 21 field36_5
  rw [cellsOf34] at h1_5
  have h1_5 : DataW.trod enc Tryz.prog w 0 sp held fu1 34 [c21] = some (x1_5.1, x1_5.2) := h1_5
  exact ⟨⟨z0, z1, z2, z3, z4, z5, z6, z7, z8, z9, z10, z11, z12, z13, z14, z15, z16, z17, z18, z19, z20⟩, c21, x1_5.1, x1_5.2, fu1, rfl, h1_5, hlt1, by rw [hd1]; exact b2 _ 5 _ (by rw [List.getElem?_map, hx1_5]; rfl)⟩
end
end Go.Proofs.YtcnfmcbmephdfaaGreatDoor.d
namespace Go.Proofs.YtcnfmcbmephdfaaGreatDoor.d
open Go Go.Proofs.YtcnfmcbmephdfaaGreatDoor.Ev Go.Proofs.YtcnfmcbmephdfaaGreatDoor.snap
theorem same_slice (p : Option Addr) (a b : Nat) : SV.same (.lit (.slice p a b)) (.lit (.slice p a b)) = true := by
  cases p <;> simp [SV.same, litSame]
set_option maxRecDepth 20000 in
theorem lenIs_slice (p : Option Addr) (n c : Nat) : LenIs (.lit (.slice p n c)) n := ⟨rfl, same_slice p n c, fun _ => rfl⟩
theorem choose_list {α : Type} {P : Nat → α → Prop} : ∀ n, (∀ k, k < n → ∃ t, P k t) → ∃ l : List α, l.length = n ∧ ∀ k t, l[k]? = some t → P k t
  | 0, _ => ⟨[], rfl, fun k t h => by simp at h⟩
  | n + 1, h => by
    obtain ⟨l, h1, h2⟩ := choose_list n fun k hk => h k (by omega)
    obtain ⟨t, ht⟩ := h n (by omega)
    refine ⟨l ++ [t], by rw [List.length_append, h1]; rfl, fun k u hu => ?_⟩
    by_cases hk : k < l.length
    · rw [List.getElem?_append_left hk] at hu; exact h2 k u hu
    · have hl := (List.getElem?_eq_some_iff.1 hu).1
      rw [List.length_append, List.length_singleton] at hl
      obtain rfl : k = n := by omega
      rw [List.getElem?_append_right (by omega), h1, Nat.sub_self] at hu
      obtain rfl : t = u := by simpa using hu
      exact ht
theorem sum_le {α : Type} (f : α → Nat) : ∀ (ks : List Tr) (l : List α), ks.length = l.length → (∀ (k : Nat) (t : Tr) (x : α), ks[k]? = some t → l[k]? = some x → t.size ≤ f x) → sizeL ks ≤ (l.map f).sum
  | [], _, _, _ => Nat.zero_le _
  | t :: ks, [], h, _ => by simp at h
  | t :: ks, x :: l, h, hs => by
    have h1 := hs 0 t x rfl rfl
    have h2 := sum_le f ks l (by simpa using h) fun k u y hu hy => hs (k + 1) u y (by simpa using hu) (by simpa using hy)
    simp only [sizeL, List.map_cons, List.sum_cons]
    omega
theorem idx_at {i n : Nat} (h : i < n) : idxQ (.lit (.int .i64 (Int.ofNat i))) n = some i := by
  have hb : Nat.blt i n = true := Nat.ble_eq_true_of_le h
  simp only [idxQ, hb, cond_true]
set_option maxRecDepth 20000 in
theorem kid_index (g off n cap i : Nat) (h : i < n) : indexAddrQ Tryz.prog 34 (.lit (.slice (some ⟨g, off, none⟩) n cap)) (.lit (.int .i64 (Int.ofNat i))) = some (.lit (.pointer (some ⟨g, off + i * 22, none⟩))) := by
  have h1 : tyU Tryz.prog 34 = some (.slice 36) := rfl
  have h2 : tySize Tryz.prog 36 = some 22 := rfl
  simp only [indexAddrQ, h1, h2, idx_at h]
theorem gwin_read {Γ : Glob} {h : Hp} {g o n : Nat} {cs : List SV} (hr : readCells Γ h (.lit (.pointer (some ⟨g, o, none⟩))) n = some (cs, [])) (hn : cs.length = n) : PtrTo Γ h (.lit (.pointer (some ⟨g, o, none⟩))) cs := by
  subst hn
  simp only [readCells] at hr
  split at hr
  · rename_i vs hv
    obtain rfl : vs = cs := by simpa using hr
    obtain ⟨l, h1, h2⟩ := Option.bind_eq_some_iff.1 hv
    exact .inr ⟨g, o, rfl, ⟨⟨l, h1, h2⟩⟩⟩
  · cases hr
section
variable {H : Type} {enc : TypeId × Value → H} {w : World} {sp : Nat → Bool} {held : Bool} {bulk : DataW H → Nat}
theorem kids_of_trod (b1 : ∀ d, 1 ≤ bulk d) (b2 : ∀ (parts : List (DataW H)) (j : Nat) (x : DataW H), parts[j]? = some x → bulk x + 1 ≤ bulk (.agg parts)) (b3 : ∀ es rest, (es.map bulk).sum + 1 ≤ bulk (.slice es rest)) (hp : Hp) (fuel : Nat) :
    ∀ (v : Value) (d : DataW H) (ps : List MemPlace), DataW.trod enc Tryz.prog w 0 sp held fuel 34 [v] = some (d, ps) → ∃ ks, KidsOf (allTab w) hp (.lit v) ks ∧ sizeL ks + 1 ≤ bulk d := by
  induction fuel using Nat.strongRecOn with
  | ind fuel ih =>
    intro v d ps h
    rcases fuel with _ | fuel
    · exact (trod_none h).elim
    rcases slice_read und34 (by rw [cellsOf36]; decide) h with ⟨p, cap, hv⟩ | ⟨g, off, cap, kids, hv, ⟨rest, rfl⟩, hk⟩
    · obtain rfl : v = .slice p 0 cap := by simpa using hv
      exact ⟨[], ⟨lenIs_slice p 0 cap, fun _ => .lit (.pointer none), fun i hi => absurd hi (Nat.not_lt_zero _), fun i t ht => by simp at ht⟩, b1 d⟩
    · obtain rfl : v = .slice (some ⟨g, off, none⟩) kids.length cap := by simpa using hv
      rw [cellsOf36] at hk
      obtain ⟨ks, k1, k2⟩ := choose_list (P := fun k (t : Tr) => TreeAt (allTab w) hp (.lit (.pointer (some ⟨g, off + k * 22, none⟩))) t ∧ ∀ x, kids[k]? = some x → t.size ≤ bulk x.2) kids.length fun k hlt => by
        have hg : kids[k]? = some kids[k] := List.getElem?_eq_getElem hlt
        generalize kids[k] = x at hg
        obtain ⟨hl, ⟨ps', hr⟩, hrd⟩ := hk k x hg
        obtain ⟨nd, u, d2, ps2, fu, e1, e2, e3, e4⟩ := node_cells b2 hl hr
        obtain ⟨us, e5, e6⟩ := ih fu (by omega) u d2 ps2 e2
        have hrd := hrd hp
        rw [e1] at hrd
        refine ⟨⟨nd, us⟩, TreeAt.of (gwin_read hrd rfl) e5, fun y hy => ?_⟩
        obtain rfl : x = y := by rw [hg] at hy; exact Option.some.inj hy
        rw [Tr.size]; omega
      refine ⟨ks, ⟨by rw [k1]; exact lenIs_slice _ _ _, fun i => .lit (.pointer (some ⟨g, off + i * 22, none⟩)), fun i hi => kid_index g off _ cap i (by omega), fun i t ht => (k2 i t ht).1⟩, ?_⟩
      have hs := sum_le (fun x : List Value × DataW H => bulk x.2) ks kids k1 fun k t x ht hx => (k2 k t ht).2 x hx
      have h3 := b3 (kids.map (·.2)) rest
      rw [List.map_map] at h3
      have : (List.map (fun x : List Value × DataW H => bulk x.2) kids).sum = (List.map (bulk ∘ fun x => x.2) kids).sum := rfl
      omega
theorem tree_of_trod (b1 : ∀ d, 1 ≤ bulk d) (b2 : ∀ (parts : List (DataW H)) (j : Nat) (x : DataW H), parts[j]? = some x → bulk x + 1 ≤ bulk (.agg parts)) (b3 : ∀ es rest, (es.map bulk).sum + 1 ≤ bulk (.slice es rest)) (hp : Hp) {fuel : Nat} {cs : List Value} {d : DataW H} {ps : List MemPlace} (hl : cs.length = 22) (h : DataW.trod enc Tryz.prog w 0 sp held fuel 36 cs = some (d, ps)) :
    ∃ (x : ND) (ks : List Tr) (v : Value), cs.map SV.lit = x.cells (.lit v) ∧ KidsOf (allTab w) hp (.lit v) ks ∧ 1 + sizeL ks ≤ bulk d := by
  obtain ⟨nd, u, d2, ps2, fu, e1, e2, e3, e4⟩ := node_cells b2 hl h
  obtain ⟨us, e5, e6⟩ := kids_of_trod b1 b2 b3 hp fu u d2 ps2 e2
  exact ⟨nd, us, u, e1, e5, by omega⟩
end
end Go.Proofs.YtcnfmcbmephdfaaGreatDoor.d
namespace Go.Proofs.YtcnfmcbmephdfaaGreatDoor.d
open Go Go.Proofs.YtcnfmcbmephdfaaGreatDoor.Ev Go.Proofs.YtcnfmcbmephdfaaGreatDoor.snap
theorem cellsOf25 : Tryz.prog.cellsOf 25 = 4 := by kernel_rfl
theorem isStruct25 : isStruct 25 = true := by kernel_rfl
theorem field25_0 : fieldAt 25 0 = some (23, 0) := by kernel_rfl
theorem field25_1 : fieldAt 25 1 = some (23, 2) := by kernel_rfl
theorem cellsOf38 : Tryz.prog.cellsOf 38 = 29 := by kernel_rfl
theorem isStruct38 : isStruct 38 = true := by kernel_rfl
theorem field38_0 : fieldAt 38 0 = some (3, 0) := by kernel_rfl
theorem field38_1 : fieldAt 38 1 = some (29, 1) := by kernel_rfl
theorem field38_2 : fieldAt 38 2 = some (36, 7) := by kernel_rfl
theorem cellsOf40 : Tryz.prog.cellsOf 40 = 39 := by kernel_rfl
theorem isStruct40 : isStruct 40 = true := by kernel_rfl
theorem field40_0 : fieldAt 40 0 = some (23, 0) := by kernel_rfl
theorem field40_1 : fieldAt 40 1 = some (3, 2) := by kernel_rfl
theorem field40_2 : fieldAt 40 2 = some (25, 3) := by kernel_rfl
theorem field40_3 : fieldAt 40 3 = some (23, 7) := by kernel_rfl
theorem field40_4 : fieldAt 40 4 = some (9, 9) := by kernel_rfl
theorem field40_5 : fieldAt 40 5 = some (38, 10) := by kernel_rfl
section
variable {H : Type} {enc : TypeId × Value → H} {w : World} {sp : Nat → Bool} {held : Bool} {bulk : DataW H → Nat}
end
end Go.Proofs.YtcnfmcbmephdfaaGreatDoor.d
namespace Go.Proofs.YtcnfmcbmephdfaaGreatDoor.d
open Go Go.Proofs.YtcnfmcbmephdfaaGreatDoor.Ev Go.Proofs.YtcnfmcbmephdfaaGreatDoor.snap
theorem cellsOf41 : Tryz.prog.cellsOf 41 = 1 := by kernel_rfl
theorem isStruct43 : isStruct 43 = true := by kernel_rfl
theorem field43_0 : fieldAt 43 0 = some (40, 0) := by kernel_rfl
theorem field43_1 : fieldAt 43 1 = some (41, 39) := by kernel_rfl
section
variable {H : Type} {enc : TypeId × Value → H} {w : World} {sp : Nat → Bool} {held : Bool} {bulk : DataW H → Nat}
theorem len40 {α : Type} : ∀ {l : List α}, l.length = 40 → ∃ c0 c1 c2 c3 c4 c5 c6 c7 c8 c9 c10 c11 c12 c13 c14 c15 c16 c17 c18 c19 c20 c21 c22 c23 c24 c25 c26 c27 c28 c29 c30 c31 c32 c33 c34 c35 c36 c37 c38 c39, l = [c0, c1, c2, c3, c4, c5, c6, c7, c8, c9, c10, c11, c12, c13, c14, c15, c16, c17, c18, c19, c20, c21, c22, c23, c24, c25, c26, c27, c28, c29, c30, c31, c32, c33, c34, c35, c36, c37, c38, c39]
  | c0 :: c1 :: c2 :: c3 :: c4 :: c5 :: c6 :: c7 :: c8 :: c9 :: c10 :: c11 :: c12 :: c13 :: c14 :: c15 :: c16 :: c17 :: c18 :: c19 :: c20 :: c21 :: c22 :: c23 :: c24 :: c25 :: c26 :: c27 :: c28 :: c29 :: c30 :: c31 :: c32 :: c33 :: c34 :: c35 :: c36 :: c37 :: c38 :: c39 :: [], _ => ⟨c0, c1, c2, c3, c4, c5, c6, c7, c8, c9, c10, c11, c12, c13, c14, c15, c16, c17, c18, c19, c20, c21, c22, c23, c24, c25, c26, c27, c28, c29, c30, c31, c32, c33, c34, c35, c36, c37, c38, c39, rfl⟩
set_option maxHeartbeats 8000000 in
set_option maxRecDepth 20000 in
theorem letter_of_trod (b1 : ∀ d, 1 ≤ bulk d) (b2 : ∀ (parts : List (DataW H)) (j : Nat) (x : DataW H), parts[j]? = some x → bulk x + 1 ≤ bulk (.agg parts)) (b3 : ∀ es rest, (es.map bulk).sum + 1 ≤ bulk (.slice es rest)) (hp : Hp) {fuel : Nat} {cs : List Value} {d : DataW H} {ps : List MemPlace} (hl : cs.length = 40) (h : DataW.trod enc Tryz.prog w 0 sp held fuel 43 cs = some (d, ps)) :
    ∃ (d0 : Int) (d1 : Int) (dk : Int) (u0 : Int) (u1 : Int) (u2 : Int) (u3 : Int) (t0 : Int) (t1 : Int) (tx : List UInt8) (ca : Int) (p0 : Int) (p1 : Int) (p2 : Int) (p3 : List UInt8) (p4 : Bool) (p5 : Int) (c39 : Value) (x : ND) (ks : List Tr) (v : Value), cs.map SV.lit = [.lit (.int .i64 d0), .lit (.int .i64 d1), .lit (.int .i64 dk), .lit (.int .i64 u0), .lit (.int .i64 u1), .lit (.int .i64 u2), .lit (.int .i64 u3), .lit (.int .i64 t0), .lit (.int .i64 t1), .lit (.string ⟨⟨tx⟩⟩), .lit (.int .i64 ca), .lit (.int .i64 p0), .lit (.int .i64 p1), .lit (.int .i64 p2), .lit (.string ⟨⟨p3⟩⟩), .lit (.bool p4), .lit (.int .i64 p5)] ++ x.cells (.lit v) ++ [.lit c39] ∧ KidsOf (allTab w) hp (.lit v) ks ∧ 1 + sizeL ks ≤ bulk d := by
  obtain ⟨c0, c1, c2, c3, c4, c5, c6, c7, c8, c9, c10, c11, c12, c13, c14, c15, c16, c17, c18, c19, c20, c21, c22, c23, c24, c25, c26, c27, c28, c29, c30, c31, c32, c33, c34, c35, c36, c37, c38, c39, rfl⟩ := len40 hl
  obtain ⟨fu1, hlt1, _, xs1, hd1, hf1⟩ := struct_at isStruct43 h
  obtain ⟨x1_0, hx1_0, h1_0⟩ := hf1 0 40 0 field43_0
  rw [cellsOf40] at h1_0
  have h1_0 : DataW.trod enc Tryz.prog w 0 sp held fu1 40 [c0, c1, c2, c3, c4, c5, c6, c7, c8, c9, c10, c11, c12, c13, c14, c15, c16, c17, c18, c19, c20, c21, c22, c23, c24, c25, c26, c27, c28, c29, c30, c31, c32, c33, c34, c35, c36, c37, c38] = some (x1_0.1, x1_0.2) := h1_0
  obtain ⟨fu2, hlt2, _, xs2, hd2, hf2⟩ := struct_at isStruct40 h1_0
  obtain ⟨x2_0, hx2_0, h2_0⟩ := hf2 0 23 0 field40_0
  rw [cellsOf23] at h2_0
  have h2_0 : DataW.trod enc Tryz.prog w 0 sp held fu2 23 [c0, c1] = some (x2_0.1, x2_0.2) := h2_0
  obtain ⟨fu3, hlt3, _, xs3, hd3, hf3⟩ := struct_at isStruct23 h2_0
  obtain ⟨x3_0, hx3_0, h3_0⟩ := hf3 0 3 0 field23_0
  rw [cellsOf3] at h3_0
  have h3_0 : DataW.trod enc Tryz.prog w 0 sp held fu3 3 [c0] = some (x3_0.1, x3_0.2) := h3_0
  obtain ⟨d0, hz0⟩ := int_at und3 h3_0
  obtain rfl : c0 = _ := by simpa using hz0
  obtain ⟨x3_1, hx3_1, h3_1⟩ := hf3 1 3 1 field23_1
  rw [cellsOf3] at h3_1
  have h3_1 : DataW.trod enc Tryz.prog w 0 sp held fu3 3 [c1] = some (x3_1.1, x3_1.2) := h3_1
  obtain ⟨d1, hz1⟩ := int_at und3 h3_1
  obtain rfl : c1 = _ := by simpa using hz1
  obtain ⟨x2_1, hx2_1, h2_1⟩ := hf2 1 3 2 field40_1
  rw [cellsOf3] at h2_1
  have h2_1 : DataW.trod enc Tryz.prog w 0 sp held fu2 3 [c2] = some (x2_1.1, x2_1.2) := h2_1
  obtain ⟨dk, hz2⟩ := int_at und3 h2_1
  obtain rfl : c2 = _ := by simpa using hz2
  obtain ⟨x2_2, hx2_2, h2_2⟩ := hf2 2 25 3 field40_2
  rw [cellsOf25] at h2_2
  have h2_2 : DataW.trod enc Tryz.prog w 0 sp held fu2 25 [c3, c4, c5, c6] = some (x2_2.1, x2_2.2) := h2_2
  obtain ⟨fu7, hlt7, _, xs7, hd7, hf7⟩ := struct_at isStruct25 h2_2
  obtain ⟨x7_0, hx7_0, h7_0⟩ := hf7 0 23 0 field25_0
  rw [cellsOf23] at h7_0
  have h7_0 : DataW.trod enc Tryz.prog w 0 sp held fu7 23 [c3, c4] = some (x7_0.1, x7_0.2) := h7_0
  obtain ⟨fu8, hlt8, _, xs8, hd8, hf8⟩ := struct_at isStruct23 h7_0
  obtain ⟨x8_0, hx8_0, h8_0⟩ := hf8 0 3 0 field23_0
  rw [cellsOf3] at h8_0
  have h8_0 : DataW.trod enc Tryz.prog w 0 sp held fu8 3 [c3] = some (x8_0.1, x8_0.2) := h8_0
  obtain ⟨u0, hz3⟩ := int_at und3 h8_0
  obtain rfl : c3 = _ := by simpa using hz3
  obtain ⟨x8_1, hx8_1, h8_1⟩ := hf8 1 3 1 field23_1
  rw [cellsOf3] at h8_1
  have h8_1 : DataW.trod enc Tryz.prog w 0 sp held fu8 3 [c4] = some (x8_1.1, x8_1.2) := h8_1
  obtain ⟨u1, hz4⟩ := int_at und3 h8_1
  obtain rfl : c4 = _ := by simpa using hz4
  obtain ⟨x7_1, hx7_1, h7_1⟩ := hf7 1 23 2 field25_1
  rw [cellsOf23] at h7_1
  have h7_1 : DataW.trod enc Tryz.prog w 0 sp held fu7 23 [c5, c6] = some (x7_1.1, x7_1.2) := h7_1
  obtain ⟨fu11, hlt11, _, xs11, hd11, hf11⟩ := struct_at isStruct23 h7_1
  obtain ⟨x11_0, hx11_0, h11_0⟩ := hf11 0 3 0 field23_0
  rw [cellsOf3] at h11_0
  have h11_0 : DataW.trod enc Tryz.prog w 0 sp held fu11 3 [c5] = some (x11_0.1, x11_0.2) := h11_0
  obtain ⟨u2, hz5⟩ := int_at und3 h11_0
  obtain rfl : c5 = _ := by simpa using hz5
  obtain ⟨x11_1, hx11_1, h11_1⟩ := hf11 1 3 1 field23_1
  rw [cellsOf3] at h11_1
  have h11_1 : DataW.trod enc Tryz.prog w 0 sp held fu11 3 [c6] = some (x11_1.1, x11_1.2) := h11_1
  obtain ⟨u3, hz6⟩ := int_at und3 h11_1
  obtain rfl : c6 = _ := by simpa using hz6
  obtain ⟨x2_3, hx2_3, h2_3⟩ := hf2 3 23 7 field40_3
  rw [cellsOf23] at h2_3
  have h2_3 : DataW.trod enc Tryz.prog w 0 sp held fu2 23 [c7, c8] = some (x2_3.1, x2_3.2) := h2_3
  obtain ⟨fu14, hlt14, _, xs14, hd14, hf14⟩ := struct_at isStruct23 h2_3
  obtain ⟨x14_0, hx14_0, h14_0⟩ := hf14 0 3 0 field23_0
  rw [cellsOf3] at h14_0
  have h14_0 : DataW.trod enc Tryz.prog w 0 sp held fu14 3 [c7] = some (x14_0.1, x14_0.2) := h14_0
  obtain ⟨t0, hz7⟩ := int_at und3 h14_0
  obtain rfl : c7 = _ := by simpa using hz7
  obtain ⟨x14_1, hx14_1, h14_1⟩ := hf14 1 3 1 field23_1
  rw [cellsOf3] at h14_1
  have h14_1 : DataW.trod enc Tryz.prog w 0 sp held fu14 3 [c8] = some (x14_1.1, x14_1.2) := h14_1
  obtain ⟨t1, hz8⟩ := int_at und3 h14_1
  obtain rfl : c8 = _ := by simpa using hz8
  obtain ⟨x2_4, hx2_4, h2_4⟩ := hf2 4 9 9 field40_4
  rw [cellsOf9] at h2_4
  have h2_4 : DataW.trod enc Tryz.prog w 0 sp held fu2 9 [c9] = some (x2_4.1, x2_4.2) := h2_4
  obtain ⟨tx, hz9⟩ := str_at und9 h2_4
  obtain rfl : c9 = _ := by simpa using hz9
  obtain ⟨x2_5, hx2_5, h2_5⟩ := hf2 5 38 10 field40_5
  rw [cellsOf38] at h2_5
  have h2_5 : DataW.trod enc Tryz.prog w 0 sp held fu2 38 [c10, c11, c12, c13, c14, c15, c16, c17, c18, c19, c20, c21, c22, c23, c24, c25, c26, c27, c28, c29, c30, c31, c32, c33, c34, c35, c36, c37, c38] = some (x2_5.1, x2_5.2) := h2_5
  obtain ⟨fu18, hlt18, _, xs18, hd18, hf18⟩ := struct_at isStruct38 h2_5
  obtain ⟨x18_0, hx18_0, h18_0⟩ := hf18 0 3 0 field38_0
  rw [cellsOf3] at h18_0
  have h18_0 : DataW.trod enc Tryz.prog w 0 sp held fu18 3 [c10] = some (x18_0.1, x18_0.2) := h18_0
  obtain ⟨ca, hz10⟩ := int_at und3 h18_0
  obtain rfl : c10 = _ := by simpa using hz10
  obtain ⟨x18_1, hx18_1, h18_1⟩ := hf18 1 29 1 field38_1
  rw [cellsOf29] at h18_1
  have h18_1 : DataW.trod enc Tryz.prog w 0 sp held fu18 29 [c11, c12, c13, c14, c15, c16] = some (x18_1.1, x18_1.2) := h18_1
  obtain ⟨fu20, hlt20, _, xs20, hd20, hf20⟩ := struct_at isStruct29 h18_1
  obtain ⟨x20_0, hx20_0, h20_0⟩ := hf20 0 3 0 field29_0
  rw [cellsOf3] at h20_0
  have h20_0 : DataW.trod enc Tryz.prog w 0 sp held fu20 3 [c11] = some (x20_0.1, x20_0.2) := h20_0
  obtain ⟨p0, hz11⟩ := int_at und3 h20_0
  obtain rfl : c11 = _ := by simpa using hz11
  obtain ⟨x20_1, hx20_1, h20_1⟩ := hf20 1 27 1 field29_1
  rw [cellsOf27] at h20_1
  have h20_1 : DataW.trod enc Tryz.prog w 0 sp held fu20 27 [c12, c13] = some (x20_1.1, x20_1.2) := h20_1
  obtain ⟨fu22, hlt22, _, xs22, hd22, hf22⟩ := struct_at isStruct27 h20_1
  obtain ⟨x22_0, hx22_0, h22_0⟩ := hf22 0 3 0 field27_0
  rw [cellsOf3] at h22_0
  have h22_0 : DataW.trod enc Tryz.prog w 0 sp held fu22 3 [c12] = some (x22_0.1, x22_0.2) := h22_0
  obtain ⟨p1, hz12⟩ := int_at und3 h22_0
  obtain rfl : c12 = _ := by simpa using hz12
  obtain ⟨x22_1, hx22_1, h22_1⟩ := hf22 1 3 1 field27_1
  rw [cellsOf3] at h22_1
  have h22_1 : DataW.trod enc Tryz.prog w 0 sp held fu22 3 [c13] = some (x22_1.1, x22_1.2) := h22_1
  obtain ⟨p2, hz13⟩ := int_at und3 h22_1
  obtain rfl : c13 = _ := by simpa using hz13
  obtain ⟨x20_2, hx20_2, h20_2⟩ := hf20 2 9 3 field29_2
  rw [cellsOf9] at h20_2
  have h20_2 : DataW.trod enc Tryz.prog w 0 sp held fu20 9 [c14] = some (x20_2.1, x20_2.2) := h20_2
  obtain ⟨p3, hz14⟩ := str_at und9 h20_2
  obtain rfl : c14 = _ := by simpa using hz14
  obtain ⟨x20_3, hx20_3, h20_3⟩ := hf20 3 4 4 field29_3
  rw [cellsOf4] at h20_3
  have h20_3 : DataW.trod enc Tryz.prog w 0 sp held fu20 4 [c15] = some (x20_3.1, x20_3.2) := h20_3
  obtain ⟨p4, hz15⟩ := bool_at und4 h20_3
  obtain rfl : c15 = _ := by simpa using hz15
  obtain ⟨x20_4, hx20_4, h20_4⟩ := hf20 4 3 5 field29_4
  rw [cellsOf3] at h20_4
  have h20_4 : DataW.trod enc Tryz.prog w 0 sp held fu20 3 [c16] = some (x20_4.1, x20_4.2) := h20_4
  obtain ⟨p5, hz16⟩ := int_at und3 h20_4
  obtain rfl : c16 = _ := by simpa using hz16
  obtain ⟨x18_2, hx18_2, h18_2⟩ := hf18 2 36 7 field38_2
  rw [cellsOf36] at h18_2
  have h18_2 : DataW.trod enc Tryz.prog w 0 sp held fu18 36 [c17, c18, c19, c20, c21, c22, c23, c24, c25, c26, c27, c28, c29, c30, c31, c32, c33, c34, c35, c36, c37, c38] = some (x18_2.1, x18_2.2) := h18_2
  obtain ⟨x, ks, v, ee1, ee2, ee3⟩ := tree_of_trod b1 b2 b3 hp rfl h18_2
  have hb18 : bulk x18_2.1 + 1 ≤ bulk x2_5.1 := by rw [hd18]; exact b2 _ 2 _ (by rw [List.getElem?_map, hx18_2]; rfl)
  have hb2 : bulk x2_5.1 + 1 ≤ bulk x1_0.1 := by rw [hd2]; exact b2 _ 5 _ (by rw [List.getElem?_map, hx2_5]; rfl)
  have hb1 : bulk x1_0.1 + 1 ≤ bulk d := by rw [hd1]; exact b2 _ 0 _ (by rw [List.getElem?_map, hx1_0]; rfl)
  obtain ⟨x1_1, hx1_1, h1_1⟩ := hf1 1 41 39 field43_1
  rw [cellsOf41] at h1_1
  have h1_1 : DataW.trod enc Tryz.prog w 0 sp held fu1 41 [c39] = some (x1_1.1, x1_1.2) := h1_1
  refine ⟨d0, d1, dk, u0, u1, u2, u3, t0, t1, tx, ca, p0, p1, p2, p3, p4, p5, c39, x, ks, v, ?_, ee2, by omega⟩
  rw [← ee1]
  rfl
end
end Go.Proofs.YtcnfmcbmephdfaaGreatDoor.d
