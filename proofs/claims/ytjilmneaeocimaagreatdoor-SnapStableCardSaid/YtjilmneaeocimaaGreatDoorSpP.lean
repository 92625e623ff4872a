/-
  IDS THAT CAN BE READ are such as the runs ask for; the document's example by the author's own evaluator; what the oracle says is so; by the author of this claim. No condition.
-/
import Derived.Test.YtjilmneaeocimaaGreatDoorSpGY
import Derived.Test.YtjilmneaeocimaaGreatDoorSpS
import Derived.Test.YtjilmneaeocimaaGreatDoorSpW
import Derived.Test.YtjilmneaeocimaaGreatDoorEvGH
import Derived.Test.YtjilmneaeocimaaGreatDoorEvGE
import Derived.Test.YtjilmneaeocimaaGreatDoorRows
import Derived.KernelRfl
namespace Go.Proofs.YtjilmneaeocimaaGreatDoor.snap
open Go Go.Proofs.YtjilmneaeocimaaGreatDoor.Ev

/-- A list of ids that came in. -/
def IL (Γ : Glob) (L : SV) (ids : List (Int × Int)) : Prop :=
  (∃ p c, L = .lit (.slice p 0 c) ∧ ids = []) ∨ ∃ g off cap, L = .lit (.slice (some ⟨g, off, none⟩) ids.length cap) ∧ ∀ k p, ids[k]? = some p → ∀ h', readCells Γ h' (.lit (.pointer (some ⟨g, off + k * 2, none⟩))) 2 = some (idC p, [])
set_option maxRecDepth 10000 in
theorem litLen (h : Hp) (p : Option Addr) (n c : Nat) : lenQ Tryz.prog h 25 (.lit (.slice p n c)) = some (.lit (.int .i64 (Int.ofNat n)), []) := rfl
theorem litIdx {g off n c k : Nat} (h : k < n) : indexAddrQ Tryz.prog 25 (.lit (.slice (some ⟨g, off, none⟩) n c)) (.lit (.int .i64 (Int.ofNat k))) = some (.lit (.pointer (some ⟨g, off + k * 2, none⟩))) := by
  simp only [indexAddrQ, tyIds, szId, idxQ]
  rw [show Nat.blt k n = true from Nat.ble_eq_true_of_le h, cond_true]
set_option maxRecDepth 10000 in
theorem aggId : tyAgg Tryz.prog 44 = some true := rfl
theorem IL.ids {Γ : Glob} {L : SV} {ids : List (Int × Int)} (hl : IL Γ L ids) (lo : Nat) (h : Hp) : Ids Γ lo h L ids := by
  rcases hl with ⟨p, c, rfl, rfl⟩ | ⟨g, off, cap, rfl, hr⟩
  · exact ⟨fun h' => nilIds h' p c, fun k d hd => by simp at hd⟩
  · refine ⟨fun h' => litLen h' _ _ _, fun k d hd => ⟨_, litIdx (List.getElem?_eq_some_iff.1 hd).1, fun h' _ => ⟨[], ?_⟩⟩⟩
    have h3 := hr k d hd h'
    simp only [loadQ, aggId, szId, h3]
section
variable {H : Type} {enc : TypeId × Value → H} {w : World} {sp : Nat → Bool} {held : Bool}
theorem int_read {P : Program} {b fuel : Nat} {t : TypeId} {cs : List Value} {x : DataW H × List MemPlace} (hu : P.underlying t = some (.int .i64)) (h : DataW.trod enc P w b sp held fuel t cs = some x) : ∃ n, cs = [.int .i64 n] := by
  rcases fuel with _ | fuel
  · cases h
  · unfold DataW.trod at h
    rw [hu] at h
    split at h
    all_goals (try (rename_i hh; cases hh; done))
    all_goals (try (rename_i hh _; cases hh; done))
    all_goals (try (cases h; done))
    rename_i k k' n hk
    cases hk
    split at h
    · rename_i hc
      exact ⟨n, by rw [hc.1]⟩
    · cases h
theorem laidOut : laidOutB Tryz.prog = true := by kernel_rfl
theorem cellsI : Tryz.prog.cellsOf 44 = 2 := by kernel_rfl
theorem cells3 : Tryz.prog.cellsOf 3 = 1 := by kernel_rfl
def vInt : Value → Int
  | .int _ n => n
  | _ => 0
def idOf (cs : List Value) : Int × Int := (vInt (cs.getD 0 undef), vInt (cs.getD 1 undef))
set_option maxRecDepth 20000 in
theorem id_read {fuel : Nat} {cs : List Value} {x : DataW H × List MemPlace} (h : DataW.trod enc Tryz.prog w 0 sp held fuel 44 cs = some x) : cs = [.int .i64 (idOf cs).1, .int .i64 (idOf cs).2] := by
  rcases fuel with _ | fuel
  · cases h
  · obtain ⟨hl, xs, _, hf⟩ := struct_read (d := x.1) (ps := x.2) Tryz.underlying44 h
    rw [cellsI] at hl
    obtain ⟨a, b, rfl⟩ : ∃ a b, cs = [a, b] := by
      match cs, hl with
      | [a, b], _ => exact ⟨a, b, rfl⟩
    obtain ⟨y, _, hy⟩ := hf 0 _ rfl
    obtain ⟨z, _, hz⟩ := hf 1 _ rfl
    have hy : DataW.trod enc Tryz.prog w 0 sp held fuel 3 (([a, b].drop 0).take (Tryz.prog.cellsOf 3)) = some y := hy
    have hz : DataW.trod enc Tryz.prog w 0 sp held fuel 3 (([a, b].drop 1).take (Tryz.prog.cellsOf 3)) = some z := hz
    rw [cells3] at hy hz
    obtain ⟨n, hn⟩ := int_read Tryz.underlying3 hy
    obtain ⟨m, hm⟩ := int_read Tryz.underlying3 hz
    obtain rfl : a = .int .i64 n := by simpa using hn
    obtain rfl : b = .int .i64 m := by simpa using hm
    rfl
theorem slice_val {P : Program} {r : Reach} {b : Nat} {t e : TypeId} {v : Value} (hu : P.underlying t = some (.slice e)) (h : Value.okWide P w r b t v) : v.cells.toList = [v] := by
  unfold Value.okWide at h
  rw [hu] at h
  have := cell_one h
  cases v <;> first | rfl | (simp [oneOf] at this)
set_option maxRecDepth 20000 in
/-- A list of ids that came in. -/
theorem list_read {r : Reach} {b : Nat} {v : Value} {d : DataW H} {ps : List MemPlace} (hok : Value.okWide Tryz.prog w r b 25 v) (h : DataW.Trod enc Tryz.prog w 0 sp held 25 v d ps) : ∃ ids, IL (allTab w) (.lit v) ids := by
  obtain ⟨fuel, h⟩ := h
  rw [slice_val Tryz.underlying25 hok] at h
  rcases fuel with _ | fuel
  · cases h
  · rcases slice_read Tryz.underlying25 (by rw [cellsI]; decide) h with ⟨p, cap, hv⟩ | ⟨g, off, cap, ks, hv, _, hk⟩
    · obtain rfl : v = .slice p 0 cap := by simpa using hv
      exact ⟨[], .inl ⟨p, cap, rfl, rfl⟩⟩
    · obtain rfl : v = .slice (some ⟨g, off, none⟩) ks.length cap := by simpa using hv
      refine ⟨ks.map fun x => idOf x.1, .inr ⟨g, off, cap, by rw [List.length_map], fun k d hd h' => ?_⟩⟩
      rw [List.getElem?_map, Option.map_eq_some_iff] at hd
      obtain ⟨x, hx, rfl⟩ := hd
      obtain ⟨_, ⟨ps', ht⟩, hrd⟩ := hk k x hx
      have h3 := id_read ht
      have h4 := hrd h'
      rw [cellsI] at h4
      rw [h4, show x.1.map SV.lit = idC (idOf x.1) by
        conv => lhs; rw [h3]
        rfl]
end
theorem theMemOk (Γ : Env) : OracleOk Tryz.prog Γ theMem := by
  intro f args hp outs h
  unfold theMem at h
  cases hb : Nat.beq f 5 with
  | true =>
    obtain rfl : f = 5 := eq_of_beq hb
    rw [hb, cond_true] at h
    split at h
    · obtain rfl := Option.some.inj h
      exact ⟨⟨_, _, Tryz.func5, rfl⟩, fun X w0 θ K w hr _ => told_post (vs := [.bool true]) hr ((awake w).mono fun e w' ⟨h1, h2⟩ => ⟨⟨_, List.mem_singleton_self _, h1⟩, h2⟩)⟩
    · cases h
  | false =>
    rw [hb, cond_false] at h
    cases hb2 : Nat.beq f 45 with
    | true =>
      obtain rfl : f = 45 := eq_of_beq hb2
      rw [hb2, cond_true] at h
      exact ⟨⟨_, _, Tryz.func45, rfl⟩, fun X w0 θ K w hr _ => sortOk h hr⟩
    | false =>
      rw [hb2, cond_false] at h
      cases h
end Go.Proofs.YtjilmneaeocimaaGreatDoor.snap
