/-
  WHAT THE ORACLE OF 'counterpanelaw39.MinePassed' SAYS IS SO, where the odd letter can be read; by the author of this claim.
-/
import Derived.Test.YtcnfmcbmephdfaaGreatDoorPsO
namespace Go.Proofs.YtcnfmcbmephdfaaGreatDoor.minePassed
open Go Go.RowKit Go.Proofs.YtcnfmcbmephdfaaGreatDoor.Ev Go.Proofs.YtcnfmcbmephdfaaGreatDoor.d Go.Proofs.YtcnfmcbmephdfaaGreatDoor.snap
theorem cells_of (D : LD) (xs : List Value) (hx : xs.map SV.lit = D.cells) {θ : Ren} (ho : ∀ i, i < 40 → oneOf (θ.opq i) = xs.getD i undef) : concL θ (oddCells D.dk) = concL θ D.cells ∧ concL θ (oddDeed D.dk) = concL θ D.deed := by
  have hl : xs.length = 40 := by rw [← List.length_map (f := SV.lit), hx]; rfl
  have h2 : xs.map SV.lit = D.deed ++ [.lit D.c39] := hx
  have e : concL θ D.cells = xs := by rw [← hx]; exact concL_lits θ xs
  have hk : xs.getD 2 undef = .int .i64 D.dk := by
    have : (xs.map SV.lit)[2]? = some (.lit (.int .i64 D.dk)) := by rw [hx]; rfl
    rw [List.getElem?_map, Option.map_eq_some_iff] at this
    obtain ⟨v, hv, he⟩ := this
    rw [List.getD_eq_getElem?_getD, hv]
    exact SV.lit.inj he
  have hd : concL θ D.deed = xs.take 39 := by
    have : D.deed = (xs.take 39).map SV.lit := by rw [List.map_take, h2]; rfl
    rw [this]; exact concL_lits θ _
  rw [e, hd]
  obtain ⟨c0, c1, c2, r, rfl⟩ : ∃ c0 c1 c2 r, xs = c0 :: c1 :: c2 :: r := by
    match xs, hl with
    | c0 :: c1 :: c2 :: r, _ => exact ⟨c0, c1, c2, r, rfl⟩
  have hr : r.length = 37 := by simpa using hl
  have h0 := ho 0 (by omega)
  have h1 := ho 1 (by omega)
  simp only [List.getD_cons_zero, List.getD_cons_succ] at h0 h1 hk
  subst hk
  have a1 : concL θ (opqs 3 37) = r := opqs_conc 37 3 (fun i hi => by
    have := ho (3 + i) (by omega)
    rw [show 3 + i = i + 1 + 1 + 1 by omega] at this ⊢
    simpa only [List.getD_cons_succ] using this) hr
  have a2 : concL θ (opqs 3 36) = r.take 36 := opqs_conc 36 3 (fun i hi => by
    have := ho (3 + i) (by omega)
    rw [show 3 + i = i + 1 + 1 + 1 by omega] at this ⊢
    simp only [List.getD_cons_succ] at this
    rw [this, List.getD_eq_getElem?_getD, List.getD_eq_getElem?_getD, List.getElem?_take, if_pos hi]) (by rw [List.length_take]; omega)
  constructor
  · simp only [oddCells, concL, conc, h0, h1, a1]
  · simp only [oddDeed, concL, conc, h0, h1, a2]
    rfl
theorem lits_ok {K : Nat → Prop} (xs : List Value) : SV.okL K (xs.map SV.lit) := okL_lits K xs
theorem deed_lits (D : LD) (xs : List Value) (hx : xs.map SV.lit = D.cells) : D.deed = (xs.take 39).map SV.lit := by
  have h2 : xs.map SV.lit = D.deed ++ [.lit D.c39] := hx
  rw [List.map_take, h2]; rfl
theorem right_word (Γ : Glob) (D : LD) (hs : 1 + sizeL D.ks ≤ 1900000) (hk : ∀ h, KidsOf Γ h (.lit D.v) D.ks) (h : Hp) : Runs Tryz.prog Γ (.call 8 [.agg D.deed] h) fun o => (∀ θ, conc θ o.v = .bool D.right) ∧ Kept h.next h o.hp :=
  (oRight_runs Γ D.d0 D.d1 D.dk D.e0 D.e1 D.e2 D.e3 D.t0 D.t1 D.tx D.ca D.p0 D.p1 D.p2 D.p3 D.p4 D.p5 D.x D.ks (.lit D.v) h (hk h) hs).mono fun o ho => ⟨fun θ => by rw [ho.1]; rfl, ho.2⟩
theorem did_word (Γ : Glob) (D : LD) (hs : 1 + sizeL D.ks ≤ 1900000) (hk : ∀ h, KidsOf Γ h (.lit D.v) D.ks) (hC : D.dk = 7 ∨ D.right = false) {h : Hp} {u wb : Nat} {l1 l2 : SV} (hu : At h u (.cells [.ptr wb 0, l1, l2] 91)) :
    Runs Tryz.prog Γ (.call 7 [.ptr u 0, .agg D.cells] h) fun o => (∀ θ, conc θ o.v = .tuple #[]) ∧ Kept h.next h o.hp :=
  (Did_runs Γ u wb D.d0 D.d1 D.dk D.e0 D.e1 D.e2 D.e3 D.t0 D.t1 D.tx D.ca D.p0 D.p1 D.p2 D.p3 D.p4 D.p5 D.x D.ks l1 l2 (.lit D.v) (.lit D.c39) h hu (hk h) hs hC).mono fun o ho => ⟨fun θ => by rw [ho.1]; rfl, ho.2⟩
theorem memOk (D : LD) (xs : List Value) (hx : xs.map SV.lit = D.cells) (hs : 1 + sizeL D.ks ≤ 1900000) (C : Bool) (hC : C = true → D.dk = 7 ∨ D.right = false) : OracleOk Tryz.prog (oddEnv D xs) (mem D.dk D.right C) := by
  intro f args hp outs h
  unfold mem at h
  cases h4 : Nat.beq f 4 with
  | true =>
    obtain rfl : f = 4 := eq_of_beq h4
    rw [h4, cond_true] at h
    split at h
    · obtain rfl := Option.some.inj h
      exact ⟨⟨_, _, Tryz.func4, rfl⟩, fun X w0 θ K w hr _ => told_post (vs := [.bool true]) hr ((awake w (rep_met hr)).mono fun e w' ⟨h1, h2⟩ => ⟨⟨_, List.mem_singleton_self _, h1⟩, h2⟩)⟩
    · cases h
  | false =>
    rw [h4, cond_false] at h
    cases h8 : (Nat.beq f 8 && isDeed D.dk args) with
    | true =>
      rw [h8, cond_true] at h
      rw [Bool.and_eq_true] at h8
      obtain rfl : f = 8 := eq_of_beq h8.1
      obtain rfl := isDeed_eq h8.2
      obtain rfl := Option.some.inj h
      refine ⟨⟨_, _, Tryz.func8, rfl⟩, fun X w0 θ K w hr _ => ?_⟩
      obtain ⟨hin, Γx, hΓ, hk⟩ := hr.inv
      refine told_runs noCount mixed (noOracle _) hr hΓ (args' := [.agg D.deed]) ?_ ?_ (right_word Γx D hs hk hp)
      · rw [deed_lits D xs hx]; exact ⟨lits_ok _, trivial⟩
      · simp only [concL, conc, (cells_of D xs hx fun i hi => (hin i hi).2).2]
    | false =>
      rw [h8, cond_false] at h
      cases h7 : (Nat.beq f 7 && (isDid D.dk args hp && C)) with
      | true =>
        rw [h7, cond_true] at h
        rw [Bool.and_eq_true, Bool.and_eq_true] at h7
        obtain rfl : f = 7 := eq_of_beq h7.1
        obtain ⟨u, wb, l1, l2, rfl, hu⟩ := isDid_eq h7.2.1
        obtain rfl := Option.some.inj h
        refine ⟨⟨_, _, Tryz.func7, rfl⟩, fun X w0 θ K w hr hok => ?_⟩
        obtain ⟨hin, Γx, hΓ, hk⟩ := hr.inv
        have hlt : u < hp.next := Nat.lt_of_not_le fun hle => hr.next u hle (hr.obj u _ hu).1
        refine told_runs noCount mixed (noOracle _) hr hΓ (args' := [.ptr u 0, .agg D.cells]) ?_ ?_ (did_word Γx D hs hk (hC h7.2.2) ⟨hlt, hu⟩)
        · rw [← hx]; exact ⟨hok.1, lits_ok _, trivial⟩
        · simp only [concL, conc, (cells_of D xs hx fun i hi => (hin i hi).2).1]
      | false =>
        rw [h7, cond_false] at h
        exact memo_sound tab (tab_ok (oddEnv D xs)) f args hp outs h
end Go.Proofs.YtcnfmcbmephdfaaGreatDoor.minePassed
