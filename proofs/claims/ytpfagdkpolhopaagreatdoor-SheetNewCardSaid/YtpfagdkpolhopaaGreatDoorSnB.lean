/-
  A ROUND OF '(*axis.Axis).ready'; by the author of this claim, in the calculus of runs. | '(*axis.Axis).ready', 'Len' AND 'At'; by the author of this claim, in the calculus of runs. | '(*axis.Axis).ready' AND 'Len', whole; by the author of this claim, in the calculus of runs. | '(*axis.Axis).Len' AND 'At'; by the author of this claim, in the calculus of runs.
-/
import Derived.Test.YtpfagdkpolhopaaGreatDoorSnA
namespace Go.Proofs.YtpfagdkpolhopaaGreatDoor.sheetNew
open Go Go.Proofs.YtpfagdkpolhopaaGreatDoor.Ev

noncomputable def rdyLoop : Code := inBlk (seqR (seqR (seqR (seqR (bodyOf Tryz.f25)))))
noncomputable def rdyBlk : Code := inBlk (seqL (seqR (seqR (inLoop rdyLoop))))
def thenOf : Code → Code
  | .cond _ a _ => a
  | c => c
noncomputable def rdyOps6 : Array Oper := opsOf (seqL (seqR rdyBlk))
noncomputable def rdyOps7 : Array Oper := opsOf (seqL (seqR (seqR rdyBlk)))
noncomputable def rdyOps9 : Array Oper := opsOf (thenOf (seqR (seqR (seqR (seqR rdyBlk)))))

def rdC (vi vl : SV) (M : Nat) (va vv : SV) : List SV := [vi, vl, .map M, va, vv]
theorem rd_splice4 {vi vl va vv v' : SV} {M : Nat} (h : SV.one v' = true) : splice (rdC vi vl M va vv) 4 [v'] = some (rdC vi vl M va v') := by
  simp only [splice, List.all_cons, List.all_nil, h, Bool.and_self]; rfl
def numV (k : Nat) : SV := .lit (.int .i64 (Int.ofNat k))
set_option maxRecDepth 10000 in
theorem tySpots : tyU Tryz.prog 84 = some (.map 43 3) := rfl
set_option maxRecDepth 10000 in
theorem tyInts : tyU Tryz.prog 85 = some (.slice 3) := rfl
set_option maxRecDepth 10000 in
theorem tySizeInt : tySize Tryz.prog 3 = some 1 := rfl

set_option maxHeartbeats 8000000 in
set_option maxRecDepth 20000 in
theorem rdy_map (Γ : Glob) (A D M k : Nat) (vi vl va vv : SV) (tm : T SV) (h : Hp) (Φ : Out → Prop)
    (e0 : Fr.ev ⟨tm, 72, []⟩ (.tmp 0) = .ptr A 0) (e2 : Fr.ev ⟨tm, 72, []⟩ (.tmp 2) = numV k) (e3 : Fr.ev ⟨tm, 72, []⟩ (.tmp 3) = .ptr D 0)
    (hA : h.objs.get A = some (.cells (rdC vi vl M va vv) 87)) (hD : h.objs.get D = some (.cells (idC k) 43)) (hM : h.objs.get M = some (.map (mapL numV k) k))
    (hΦ : ∀ tm' : T SV, (∀ t, t < 37 → Fr.ev ⟨tm', 72, []⟩ (.tmp t) = Fr.ev ⟨tm, 72, []⟩ (.tmp t)) → Φ ⟨.normal, ⟨tm', 72, []⟩, ⟨h.objs.set M (.map (mapL numV (k + 1)) (k + 1)), h.next⟩, .lit undef⟩) :
    RunsDrawn Tryz.prog Γ rdyOps6 8 0 [] ⟨tm, 72, []⟩ h Φ := by
  have d36 : Nat.testBit (descOf 3 rdyOps6.toList 0 0) 6 = true := rfl
  have d46 : Nat.testBit (descOf 4 rdyOps6.toList 0 0) 6 = true := rfl
  have hup := update_new (h := h) (f := numV) (k := k) (v := numV k) tySpots hM rfl
  refine drawn_effect (i := 6) (v := .lit undef) (h2 := ⟨h.objs.set M (.map (mapL numV (k + 1)) (k + 1)), h.next⟩) (m' := 63)
    (held' := [⟨descOf 4 rdyOps6.toList 0 0, [.cells D 0 (idC k)], none⟩, ⟨descOf 3 rdyOps6.toList 0 0, [.cells A 2 [.map M]], none⟩])
    (fr' := ⟨(((((tm.set 37 (.ptr A 0)).set 38 (.ptr A 0)).set 39 (.ptr A 2)).set 40 (.map M)).set 41 (.agg (idC k))).set 42 (numV k), 72, []⟩) (hp' := h) (by
    refine take_quiet (v := .ptr A 0) rfl rfl rfl (by simp only [quiet, e0]) rfl ?_
    refine take_quiet (v := .ptr A 0) rfl rfl rfl (by simp only [quiet, ev_set]; rfl) rfl ?_
    refine take_quiet (v := .ptr A 2) rfl rfl rfl (by simp only [quiet, ev_set]; rfl) rfl ?_
    refine take_lean (v := .map M) (fs := .cells A 2 [.map M]) rfl rfl rfl (by simp only [quiet, ev_set]; exact load_cell rfl hA rfl) rfl ?_
    refine take_lean (v := .agg (idC k)) (fs := .cells D 0 (idC k)) rfl rfl rfl (by simp only [quiet, ev_set, e3]; exact load_all (n := 2) tyAggId tySizeId hD rfl) rfl ?_
    refine take_quiet (v := numV k) rfl rfl rfl (by simp only [quiet, ev_set, e2]; rfl) rfl ?_
    refine take_loud rfl rfl rfl rfl rfl ?_
    rfl) rfl rfl rfl (update_eff (M := M) (k := k) (v := numV k) (by simp only [ev_set]; rfl) (by simp only [ev_set]; rfl) (by simp only [ev_set]; rfl) hup) (Nat.le_refl _) rfl rfl ?_ ?_
  · simp only [factsStand, d36, d46, cond_true, Bool.and_true]
  rw [show drop 6 [⟨descOf 4 rdyOps6.toList 0 0, [.cells D 0 (idC k)], none⟩, ⟨descOf 3 rdyOps6.toList 0 0, [.cells A 2 [.map M]], none⟩] = [] from by simp only [drop, d36, d46, cond_true]]
  refine drawn_end (m' := 127) (held' := []) (hp' := ⟨h.objs.set M (.map (mapL numV (k + 1)) (k + 1)), h.next⟩) (by
    refine take_done rfl ?_
    refine take_done rfl ?_
    refine take_done rfl ?_
    refine take_done rfl ?_
    refine take_done rfl ?_
    refine take_done rfl ?_
    refine take_done rfl ?_
    rfl) rfl rfl ?_
  refine hΦ _ fun t ht => ?_
  have hne : ∀ d : Nat, 37 ≤ d → ¬ t = d := fun d hd e => by
    have ht' : Nat.lt t 37 := ht
    rw [e] at ht'
    exact absurd ht' (Nat.not_lt.2 hd)
  simp only [ev_set, if_neg (hne 37 (by decide)), if_neg (hne 38 (by decide)), if_neg (hne 39 (by decide)), if_neg (hne 40 (by decide)), if_neg (hne 41 (by decide)), if_neg (hne 42 (by decide))]

theorem splice_at {l : List SV} {k : Nat} {v : SV} (hk : k < l.length) (hv : SV.one v = true) : ∃ l', splice l k [v] = some l' ∧ l'.length = l.length := by
  have h1 : Nat.ble (k + [v].length) l.length = true := Nat.ble_eq_true_of_le (by simp only [List.length_singleton]; omega)
  refine ⟨l.take k ++ [v] ++ l.drop (k + [v].length), ?_, ?_⟩
  · simp only [splice, h1, List.all_cons, List.all_nil, hv, Bool.and_self, cond_true]
  · simp only [List.length_append, List.length_take, List.length_drop, List.length_singleton]
    omega

set_option maxHeartbeats 8000000 in
set_option maxRecDepth 20000 in
theorem rdy_ahead (Γ : Glob) (A M ba bv lo k n : Nat) (vi vl vv : SV) (la : List SV) (tm : T SV) (h : Hp) (Φ : Out → Prop) (hkn : k < n)
    (e0 : Fr.ev ⟨tm, 72, []⟩ (.tmp 0) = .ptr A 0) (e2 : Fr.ev ⟨tm, 72, []⟩ (.tmp 2) = numV k)
    (hA : h.objs.get A = some (.cells (rdC vi vl M (.slice ba 0 n n) vv) 87)) (hba : h.objs.get ba = some (.cells la 3)) (hla : la.length = n) (hv : RowIs h lo bv 43 2 vv (idsL k))
    (hΦ : ∀ (tm' : T SV) (la' : List SV), la'.length = n → (∀ t, t < 43 → Fr.ev ⟨tm', 72, []⟩ (.tmp t) = Fr.ev ⟨tm, 72, []⟩ (.tmp t)) → Φ ⟨.normal, ⟨tm', 72, []⟩, ⟨h.objs.set ba (.cells la' 3), h.next⟩, .lit undef⟩) :
    RunsDrawn Tryz.prog Γ rdyOps7 13 0 [] ⟨tm, 72, []⟩ h Φ := by
  obtain ⟨la', hsp, hla'⟩ := splice_at (l := la) (k := 0 + k * 1) (v := numV k) (by omega) rfl
  have d3 : Nat.testBit (descOf 3 rdyOps7.toList 0 0) 11 = true := rfl
  have d8 : Nat.testBit (descOf 8 rdyOps7.toList 0 0) 11 = true := rfl
  refine drawn_end (m' := 4095) (held' := [⟨descOf 11 rdyOps7.toList 0 0, [], some (ba, .cells la' 3)⟩, ⟨descOf 8 rdyOps7.toList 0 0, [.cells A 4 [vv]], none⟩, ⟨descOf 3 rdyOps7.toList 0 0, [.cells A 3 [.slice ba 0 n n]], none⟩]) (hp' := ⟨h.objs.set ba (.cells la' 3), h.next⟩) (by
    refine take_quiet (v := .ptr A 0) rfl rfl rfl (by simp only [quiet, e0]) rfl ?_
    refine take_quiet (v := .ptr A 0) rfl rfl rfl (by simp only [quiet, ev_set]; rfl) rfl ?_
    refine take_quiet (v := .ptr A 3) rfl rfl rfl (by simp only [quiet, ev_set]; rfl) rfl ?_
    refine take_lean (v := .slice ba 0 n n) (fs := .cells A 3 [.slice ba 0 n n]) rfl rfl rfl (by simp only [quiet, ev_set]; exact load_cell rfl hA rfl) rfl ?_
    refine take_quiet (v := numV k) rfl rfl rfl (by simp only [quiet, ev_set, e2]; rfl) rfl ?_
    refine take_quiet (v := .ptr A 0) rfl rfl rfl (by simp only [quiet, ev_set, e0]; rfl) rfl ?_
    refine take_quiet (v := .ptr A 0) rfl rfl rfl (by simp only [quiet, ev_set]; rfl) rfl ?_
    refine take_quiet (v := .ptr A 4) rfl rfl rfl (by simp only [quiet, ev_set]; rfl) rfl ?_
    refine take_lean (v := vv) (fs := .cells A 4 [vv]) rfl rfl rfl (by simp only [quiet, ev_set]; exact load_cell rfl hA rfl) rfl ?_
    refine take_quiet (v := numV k) rfl rfl rfl (by
      have := RowIs.len (P := Tryz.prog) (h' := h) tyIds hv (nilIds h)
      rw [idsL_len] at this
      exact this) rfl ?_
    refine take_quiet (v := .ptr ba (0 + k * 1)) rfl rfl rfl (by
      have hb : Nat.blt k n = true := Nat.ble_eq_true_of_le hkn
      have hq : indexAddrQ Tryz.prog 85 (.slice ba 0 n n) (numV k) = some (.ptr ba (0 + k * 1)) := by
        simp only [indexAddrQ, tyInts, tySizeInt, numV, idxQ, hb, cond_true]
      simp only [quiet, ev_set]
      exact congrArg one hq) rfl ?_
    refine take_local (v := .lit undef) (b := ba) (nx := h.next) (ob := .cells la' 3) rfl rfl rfl rfl (local_store (n := 1) (v := numV k) (l := la) rfl (by simp only [ev_set]; rfl) (by simp only [ev_set]; rfl) rfl hba hsp) (by simp only [noneLeans, d3, d8, cond_true, Bool.and_true]) rfl ?_
    rfl) rfl rfl ?_
  refine hΦ _ la' (hla'.trans hla) fun t ht => ?_
  have hne : ∀ d : Nat, 43 ≤ d → ¬ t = d := fun d hd e => by
    have ht' : Nat.lt t 43 := ht
    rw [e] at ht'
    exact absurd ht' (Nat.not_lt.2 hd)
  simp only [ev_set, if_neg (hne 43 (by decide)), if_neg (hne 44 (by decide)), if_neg (hne 45 (by decide)), if_neg (hne 46 (by decide)), if_neg (hne 47 (by decide)), if_neg (hne 48 (by decide)), if_neg (hne 49 (by decide)), if_neg (hne 50 (by decide)), if_neg (hne 51 (by decide)), if_neg (hne 52 (by decide)), if_neg (hne 53 (by decide))]
end Go.Proofs.YtpfagdkpolhopaaGreatDoor.sheetNew
namespace Go.Proofs.YtpfagdkpolhopaaGreatDoor.sheetNew
open Go Go.Proofs.YtpfagdkpolhopaaGreatDoor.Ev

set_option maxHeartbeats 8000000 in
set_option maxRecDepth 20000 in
theorem rdy_append (Γ : Glob) (A D M lo bi k : Nat) (vj vl va vi : SV) (tm : T SV) (h : Hp) (Φ : Out → Prop) (hk : k ≤ 1000)
    (e3 : Fr.ev ⟨tm, 72, []⟩ (.tmp 0) = .ptr A 0) (e6 : Fr.ev ⟨tm, 72, []⟩ (.tmp 3) = .ptr D 0)
    (hA : h.objs.get A = some (.cells (rdC vj vl M va vi) 87)) (hD : h.objs.get D = some (.cells (idC k) 43)) (hAl : A < lo) (hbi : lo ≤ bi) (hlo : lo ≤ h.next)
    (hrow : RowIs h lo bi 43 2 vi (idsL k))
    (hΦ : ∀ (tm' : T SV) (h' : Hp) (vi' : SV), (∀ t, t < 61 → Fr.ev ⟨tm', 72, []⟩ (.tmp t) = Fr.ev ⟨tm, 72, []⟩ (.tmp t)) → h'.objs.get A = some (.cells (rdC vj vl M va vi') 87) → (∀ b, b < h.next → b ≠ A → (vi = .lit (.slice none 0 0) ∨ b ≠ bi) → h'.objs.get b = h.objs.get b) → h'.next = h.next + 2 →
      RowIs h' lo (h.next + 1) 43 2 vi' (idsL (k + 1)) → Φ ⟨.normal, ⟨tm', 72, []⟩, h', .lit undef⟩) :
    RunsDrawn Tryz.prog Γ rdyOps9 12 0 [] ⟨tm, 72, []⟩ h Φ := by
  obtain ⟨hLone, hLsame⟩ := hrow.same
  have hnb : (h.objs.set h.next (.cells (idC k) 43)).get h.next = some (.cells (idC k) 43) := get_same
  have hrow2 : RowIs ⟨h.objs.set h.next (.cells (idC k) 43), h.next + 1⟩ lo bi 43 2 vi (idsL k) := hrow.kept (Nat.le_succ _) fun hb _ => get_ne (by omega)
  obtain ⟨v', h3, happ, hrow3, hn3, hget3⟩ := append_id (Γ := Γ) hrow2 (by omega) (Nat.le_succ_of_le hlo) hnb
  have hn3 : h3.next = h.next + 2 := hn3
  have hget : ∀ b, b < h.next → (vi = .lit (.slice none 0 0) ∨ b ≠ bi) → h3.objs.get b = h.objs.get b := fun b hb hne => by
    rw [hget3 b (by show b < h.next + 1; omega) hne]
    exact get_ne (by omega)
  have hA2 : (h.objs.set h.next (.cells (idC k) 43)).get A = some (.cells (rdC vj vl M va vi) 87) := (get_ne (by omega)).trans hA
  have hA3 : h3.objs.get A = some (.cells (rdC vj vl M va vi) 87) := (hget A (by omega) (.inr (by omega))).trans hA
  have hvone : SV.one v' = true := hrow3.same.1
  have d56 : Nat.testBit (descOf 5 rdyOps9.toList 0 0) 6 = true := rfl
  have d46 : Nat.testBit (descOf 4 rdyOps9.toList 0 0) 6 = false := rfl
  have d47 : Nat.testBit (descOf 4 rdyOps9.toList 0 0) 7 = true := rfl
  refine drawn_effect (i := 6) (v := .slice h.next 0 1 1) (h2 := ⟨h.objs.set h.next (.cells (idC k) 43), h.next + 1⟩) (m' := 63)
    (held' := [⟨descOf 5 rdyOps9.toList 0 0, [.cells D 0 (idC k)], none⟩, ⟨descOf 4 rdyOps9.toList 0 0, [.cells A 4 [vi]], none⟩])
    (fr' := ⟨(((((tm.set 61 (.ptr A 0)).set 62 (.ptr A 0)).set 63 (.ptr A 0)).set 64 (.ptr A 4)).set 65 vi).set 66 (.agg (idC k)), 72, []⟩) (hp' := h) (by
    refine take_quiet (v := .ptr A 0) rfl rfl rfl (by simp only [quiet, e3]) rfl ?_
    refine take_quiet (v := .ptr A 0) rfl rfl rfl (by simp only [quiet, ev_set, e3]; rfl) rfl ?_
    refine take_quiet (v := .ptr A 0) rfl rfl rfl (by simp only [quiet, ev_set]; rfl) rfl ?_
    refine take_quiet (v := .ptr A 4) rfl rfl rfl (by simp only [quiet, ev_set]; rfl) rfl ?_
    refine take_lean (v := vi) (fs := .cells A 4 [vi]) rfl rfl rfl (by simp only [quiet, ev_set]; exact load_cell rfl hA rfl) rfl ?_
    refine take_lean (v := .agg (idC k)) (fs := .cells D 0 (idC k)) rfl rfl rfl (by simp only [quiet, ev_set, e6]; exact load_all (n := 2) rfl rfl hD rfl) rfl ?_
    refine take_loud rfl rfl rfl rfl rfl ?_
    refine take_wait rfl rfl ?_
    refine take_wait rfl rfl ?_
    refine take_wait rfl rfl ?_
    refine take_wait rfl rfl ?_
    rfl) rfl rfl rfl rfl (Nat.le_succ _) rfl rfl ?_ ?_
  · simp only [factsStand, d56, d46, cond_true, cond_false, List.all_cons, List.all_nil, fact_one (h := ⟨h.objs.set h.next (.cells (idC k) 43), h.next + 1⟩) (k := 4) (v := vi) hA2 rfl hLsame, Bool.or_true, Bool.and_true]
  rw [show drop 6 [⟨descOf 5 rdyOps9.toList 0 0, [.cells D 0 (idC k)], none⟩, ⟨descOf 4 rdyOps9.toList 0 0, [.cells A 4 [vi]], none⟩] = [⟨descOf 4 rdyOps9.toList 0 0, [.cells A 4 [vi]], none⟩] from by simp only [drop, d56, d46, cond_true, cond_false]]
  refine drawn_effect (i := 7) (v := v') (h2 := h3) (m' := 127) (held' := [⟨descOf 4 rdyOps9.toList 0 0, [.cells A 4 [vi]], none⟩]) (by
    refine take_done rfl ?_
    refine take_done rfl ?_
    refine take_done rfl ?_
    refine take_done rfl ?_
    refine take_done rfl ?_
    refine take_done rfl ?_
    refine take_done rfl ?_
    refine take_loud rfl rfl rfl rfl rfl ?_
    refine take_wait rfl rfl ?_
    refine take_wait rfl rfl ?_
    refine take_wait rfl rfl ?_
    rfl) rfl rfl rfl (by simp only [effect, ev_set]; exact congrArg val happ) (by show h.next + 1 ≤ _; omega) rfl rfl ?_ ?_
  · simp only [factsStand, d47, cond_true, Bool.and_true]
  rw [show drop 7 [⟨descOf 4 rdyOps9.toList 0 0, [.cells A 4 [vi]], none⟩] = [] from by simp only [drop, d47, cond_true]]
  refine drawn_end (m' := 2047) (held' := [⟨descOf 10 rdyOps9.toList 0 0, [], some (A, .cells (rdC vj vl M va v') 87)⟩]) (hp' := ⟨h3.objs.set A (.cells (rdC vj vl M va v') 87), h3.next⟩) (by
    refine take_done rfl ?_
    refine take_done rfl ?_
    refine take_done rfl ?_
    refine take_done rfl ?_
    refine take_done rfl ?_
    refine take_done rfl ?_
    refine take_done rfl ?_
    refine take_done rfl ?_
    refine take_quiet (v := .ptr A 0) rfl rfl rfl (by simp only [quiet, ev_set]; rfl) rfl ?_
    refine take_quiet (v := .ptr A 4) rfl rfl rfl (by simp only [quiet, ev_set]; rfl) rfl ?_
    refine take_local (v := .lit undef) (b := A) (nx := h3.next) (ob := .cells (rdC vj vl M va v') 87) rfl rfl rfl rfl (by
      refine local_store (n := 1) (v := v') (l := rdC vj vl M va vi) rfl (by simp only [ev_set]; rfl) (by simp only [ev_set]; rfl) (by rw [cells_one hvone]; rfl) hA3 (by rw [cells_one hvone]; exact rd_splice4 hvone)) rfl rfl ?_
    rfl) rfl rfl ?_
  refine hΦ _ _ v' (fun t ht => ?_) get_same (fun b hb hne hbi => (get_ne hne).trans (hget b hb hbi)) hn3 (hrow3.kept (Nat.le_refl _) fun _ hb => get_ne (by omega))
  have hne : ∀ d : Nat, 61 ≤ d → ¬ t = d := fun d hd e => by
    have ht' : Nat.lt t 61 := ht
    rw [e] at ht'
    exact absurd ht' (Nat.not_lt.2 hd)
  simp only [ev_set, if_neg (hne 61 (by decide)), if_neg (hne 62 (by decide)), if_neg (hne 63 (by decide)), if_neg (hne 64 (by decide)), if_neg (hne 65 (by decide)), if_neg (hne 66 (by decide)), if_neg (hne 67 (by decide)), if_neg (hne 68 (by decide)), if_neg (hne 69 (by decide)), if_neg (hne 70 (by decide))]



set_option maxRecDepth 10000 in
theorem tyAggBool : tyAgg Tryz.prog 4 = some false := rfl
set_option maxRecDepth 10000 in
theorem tySizeBool : tySize Tryz.prog 4 = some 1 := rfl
theorem true_load {Γ : Glob} {h : Hp} {b k n : Nat} (hb : h.objs.get b = some (.row (trues n).flatten 4 n b 1)) (hk : k < n) : loadQ Tryz.prog Γ h 4 (.ptr b (0 + k * 1)) = some (.lit (.bool true), [.cells b (0 + k * 1) [.lit (.bool true)]]) := by
  have hcut : cut (trues n).flatten (0 + k * 1) 1 = some [.lit (.bool true)] := by
    rw [Nat.zero_add]
    refine cut_flat' (fun x hx => by rw [(List.mem_replicate.1 hx).2]; rfl) ?_
    rw [trues, List.getElem?_replicate, if_pos hk]
  have t1 : tyAgg Tryz.prog 4 = some false := tyAggBool
  simp only [loadQ, t1, readCells, knownCells, hb, Option.bind_some, hcut]
theorem true_index {b k n : Nat} (hk : k < n) : indexAddrQ Tryz.prog 81 (.row b 0 n n b) (numV k) = some (.ptr b (0 + k * 1)) := by
  have hb : Nat.blt k n = true := Nat.ble_eq_true_of_le hk
  simp only [indexAddrQ, tyBools, tySizeBool, numV, idxQ, hb, cond_true]

noncomputable def rdyEnd : Code := seqR (seqR (seqR rdyBlk))
noncomputable def rdyNext : Code := seqR (seqR (seqR (inLoop rdyLoop)))
set_option maxHeartbeats 8000000 in
set_option maxRecDepth 20000 in
theorem rdy_end (Γ : Glob) (A lo n bi bl bv k : Nat) (la : List SV) (vv : SV) (tm : T SV) (h : Hp) (D : Nat) (hk : k ≤ 1000) (hkn : k < n) (e0 : Fr.ev ⟨tm, 72, []⟩ (.tmp 0) = .ptr A 0) (e2 : Fr.ev ⟨tm, 72, []⟩ (.tmp 2) = numV k) (e3 : Fr.ev ⟨tm, 72, []⟩ (.tmp 3) = .ptr D 0) (e30 : Fr.ev ⟨tm, 72, []⟩ (.tmp 30) = .row bi 0 n n bi)
    (e31 : Fr.ev ⟨tm, 72, []⟩ (.tmp 31) = .lit (.int .i64 (Int.ofNat n))) (e32 : Fr.ev ⟨tm, 72, []⟩ (.tmp 32) = .lit (.int .i64 (Int.ofNat k)))
    (hA : h.objs.get A = some (.cells (rdC (.row bi 0 n n bi) (.row bl 0 n n bl) (lo - 2) (.slice (lo - 1) 0 n n) vv) 87)) (hM : h.objs.get (lo - 2) = some (.map (mapL numV (k + 1)) (k + 1))) (hba : h.objs.get (lo - 1) = some (.cells la 3)) (hD : h.objs.get D = some (.cells (idC k) 43))
    (hi : h.objs.get bi = some (.row (idsL n).flatten 43 n bi 2)) (hl : h.objs.get bl = some (.row (trues n).flatten 4 n bl 1)) (hv : RowIs h lo bv 43 2 vv (idsL k)) (hbv : lo ≤ bv) (hlo : lo ≤ h.next) (hAl : A < lo) (hAl2 : A < lo - 2) (hbi1 : bi < lo - 2) (hbi2 : bi ≠ A) (hbl1 : bl < lo - 2) (hbl2 : bl ≠ A) (Φ : Out → Prop)
    (hΦ : ∀ (tm' : T SV) (h' : Hp) (vv' : SV), Fr.ev ⟨tm', 72, []⟩ (.tmp 0) = .ptr A 0 → Fr.ev ⟨tm', 72, []⟩ (.tmp 30) = .row bi 0 n n bi → Fr.ev ⟨tm', 72, []⟩ (.tmp 31) = .lit (.int .i64 (Int.ofNat n)) → Fr.ev ⟨tm', 72, []⟩ (.tmp 32) = .lit (.int .i64 (Int.ofNat (k + 1))) →
      h'.objs.get A = some (.cells (rdC (.row bi 0 n n bi) (.row bl 0 n n bl) (lo - 2) (.slice (lo - 1) 0 n n) vv') 87) → h'.objs.get (lo - 2) = some (.map (mapL numV (k + 1)) (k + 1)) → h'.objs.get (lo - 1) = some (.cells la 3) →
      h'.objs.get bi = some (.row (idsL n).flatten 43 n bi 2) → h'.objs.get bl = some (.row (trues n).flatten 4 n bl 1) → RowIs h' lo (h.next + 1) 43 2 vv' (idsL (k + 1)) → h'.next = h.next + 2 → (∀ b, b < lo - 2 → b ≠ A → h'.objs.get b = h.objs.get b) → Runs Tryz.prog Γ (.code rdyLoop none ⟨tm', 72, []⟩ h') Φ) :
    Runs Tryz.prog Γ (.code rdyEnd none ⟨tm, 72, []⟩ h) fun o => Then (fun f p => Runs Tryz.prog Γ (.code rdyNext none f p) (Then (fun f p => Runs Tryz.prog Γ (.code rdyLoop none f p) Φ) Φ)) (Then (fun f p => Runs Tryz.prog Γ (.code rdyLoop none f p) Φ) Φ) (atEnd 1 o) := by
  have n1 : ∀ b, b < lo - 2 → b < h.next ∧ b ≠ bv := fun b hb => by omega
  have n2 : lo - 2 < h.next ∧ lo - 2 ≠ A ∧ lo - 2 ≠ bv := by omega
  have n3 : lo - 1 < h.next ∧ lo - 1 ≠ A ∧ lo - 1 ≠ bv := by omega
  refine runs_seq (runs_region ?_)
  refine ops_quiet (v := .ptr A 0) (fs := []) rfl (by simp only [quiet, e0]) rfl ?_
  refine ops_quiet (v := .ptr A 0) (fs := []) rfl (by simp only [quiet, ev_set]; rfl) rfl ?_
  refine ops_quiet (v := .ptr A 1) (fs := []) rfl (by simp only [quiet, ev_set]; rfl) rfl ?_
  refine ops_quiet (v := .row bl 0 n n bl) (fs := [.cells A 1 [.row bl 0 n n bl]]) rfl (by simp only [quiet, ev_set]; exact load_cell rfl hA rfl) rfl ?_
  refine ops_quiet (v := numV k) (fs := []) rfl (by simp only [quiet, ev_set, e2]; rfl) rfl ?_
  refine ops_quiet (v := .ptr bl (0 + k * 1)) (fs := []) rfl (by simp only [quiet, ev_set]; exact congrArg one (true_index hkn)) rfl ?_
  refine ops_quiet (v := .lit (.bool true)) (fs := [.cells bl (0 + k * 1) [.lit (.bool true)]]) rfl (by simp only [quiet, ev_set]; exact true_load hl hkn) rfl ?_
  refine ops_nil ?_
  refine runs_cond true (by simp [ev_set]) ?_
  refine runs_drawn (ops := rdyOps9) rfl ?_
  refine rdy_append Γ A D (lo - 2) lo bv k (.row bi 0 n n bi) (.row bl 0 n n bl) (.slice (lo - 1) 0 n n) vv _ h _ hk ?_ ?_ hA hD hAl hbv hlo hv ?_
  · simp only [ev_set]; exact e0
  · simp only [ev_set]; exact e3
  intro tm' h' vv' hev hA' hk' hn' hv'
  rw [show ∀ fr hp v, atEnd 1 ⟨.normal, fr, hp, v⟩ = ⟨.normal, fr, hp, v⟩ from fun _ _ _ => rfl]
  have f0 : Fr.ev ⟨tm', 72, []⟩ (.tmp 0) = .ptr A 0 := by rw [hev 0 (by decide)]; simp only [ev_set]; exact e0
  have f30 : Fr.ev ⟨tm', 72, []⟩ (.tmp 30) = .row bi 0 n n bi := by rw [hev 30 (by decide)]; simp only [ev_set]; exact e30
  have f31 : Fr.ev ⟨tm', 72, []⟩ (.tmp 31) = .lit (.int .i64 (Int.ofNat n)) := by rw [hev 31 (by decide)]; simp only [ev_set]; exact e31
  have f32 : Fr.ev ⟨tm', 72, []⟩ (.tmp 32) = .lit (.int .i64 (Int.ofNat k)) := by rw [hev 32 (by decide)]; simp only [ev_set]; exact e32
  refine runs_region ?_
  refine ops_quiet (v := .lit (.int .i64 (Int.ofNat (k + 1)))) (fs := []) rfl (by
    simp only [quiet, f32]
    show one (some (.lit (.int .i64 (IntKind.i64.wrap ((k : Int) + 1))))) = _
    rw [wrap_succ (by omega)]
    rfl) rfl ?_
  refine ops_quiet (v := .lit (.int .i64 (Int.ofNat (k + 1)))) (fs := []) rfl rfl rfl ?_
  refine ops_nil ?_
  refine hΦ _ h' vv' ?_ ?_ ?_ ?_ hA' ((hk' _ n2.1 n2.2.1 (.inr n2.2.2)).trans hM) ((hk' _ n3.1 n3.2.1 (.inr n3.2.2)).trans hba) ((hk' bi (n1 bi hbi1).1 hbi2 (.inr (n1 bi hbi1).2)).trans hi) ((hk' bl (n1 bl hbl1).1 hbl2 (.inr (n1 bl hbl1).2)).trans hl) hv' hn' fun b hb hne => hk' b (n1 b hb).1 hne (.inr (n1 b hb).2)
  · simp only [ev_set]; exact f0
  · simp only [ev_set]; exact f30
  · simp only [ev_set]; exact f31
  · simp only [ev_set]; rfl

set_option maxHeartbeats 8000000 in
set_option maxRecDepth 20000 in
theorem rdy_loop (Γ : Glob) (A lo n bi bl : Nat) (vi vl : SV) (hn : n ≤ 1000) (hvi : 0 < n → vi = .row bi 0 n n bi ∧ bi < lo - 2 ∧ bi ≠ A) (hvl : 0 < n → vl = .row bl 0 n n bl ∧ bl < lo - 2 ∧ bl ≠ A) (hAl : A < lo - 2) (hlo2 : 2 ≤ lo) :
    ∀ (rem k : Nat), k + rem = n → ∀ (tm : T SV) (h : Hp) (vv : SV) (bv : Nat) (la : List SV), Fr.ev ⟨tm, 72, []⟩ (.tmp 0) = .ptr A 0 → Fr.ev ⟨tm, 72, []⟩ (.tmp 30) = vi → Fr.ev ⟨tm, 72, []⟩ (.tmp 31) = .lit (.int .i64 (Int.ofNat n)) → Fr.ev ⟨tm, 72, []⟩ (.tmp 32) = .lit (.int .i64 (Int.ofNat k)) →
      h.objs.get A = some (.cells (rdC vi vl (lo - 2) (.slice (lo - 1) 0 n n) vv) 87) → h.objs.get (lo - 2) = some (.map (mapL numV k) k) → h.objs.get (lo - 1) = some (.cells la 3) → la.length = n →
      (0 < n → h.objs.get bi = some (.row (idsL n).flatten 43 n bi 2)) → (0 < n → h.objs.get bl = some (.row (trues n).flatten 4 n bl 1)) → RowIs h lo bv 43 2 vv (idsL k) → lo ≤ bv → lo ≤ h.next →
      Runs Tryz.prog Γ (.code rdyLoop none ⟨tm, 72, []⟩ h) fun o => o.exit = .exit 0 ∧ ∃ (tm' : T SV) (vv' : SV) (bv' : Nat), o.fr = ⟨tm', 72, []⟩ ∧ o.hp.objs.get A = some (.cells (rdC vi vl (lo - 2) (.slice (lo - 1) 0 n n) vv') 87) ∧
        RowIs o.hp lo bv' 43 2 vv' (idsL n) ∧ lo ≤ bv' ∧ (∀ b, b < lo - 2 → b ≠ A → o.hp.objs.get b = h.objs.get b) ∧ h.next ≤ o.hp.next := by
  intro rem
  induction rem with
  | zero =>
    intro k hkr tm h vv bv la e0 e30 e31 e32 hA hM hba hla hi hl hv hbv hlo
    obtain rfl : k = n := by omega
    refine runs_loop ?_
    refine runs_seq (runs_region ?_)
    refine ops_quiet (v := .lit (.bool false)) (fs := []) rfl (by
      simp only [quiet, e31, e32]
      show one (some (.lit (.bool (decide ((k : Int) < k))))) = _
      rw [decide_eq_false (by omega)]
      rfl) rfl ?_
    refine ops_nil ?_
    refine runs_seq (runs_cond false (by simp [ev_set]) (runs_exit ?_))
    exact ⟨rfl, _, vv, bv, rfl, hA, hv, hbv, fun _ _ _ => rfl, Nat.le_refl _⟩
  | succ rem ihr =>
    intro k hkr tm h vv bv la e0 e30 e31 e32 hA hM hba hla hi hl hv hbv hlo
    have hkn : k < n := by omega
    have hi := hi (by omega)
    have hl := hl (by omega)
    obtain ⟨rfl, hbi1, hbi2⟩ := hvi (by omega)
    obtain ⟨rfl, hbl1, hbl2⟩ := hvl (by omega)
    obtain ⟨h1, hh1⟩ : ∃ h1 : Hp, h1 = ⟨(h.objs.set h.next (.cells [.lit (.int .i64 0), .lit (.int .i64 0)] 43)).set h.next (.cells (idC k) 43), h.next + 1⟩ := ⟨_, rfl⟩
    have hn1 : h1.next = h.next + 1 := by rw [hh1]
    have hD1 : h1.objs.get h.next = some (.cells (idC k) 43) := by rw [hh1]; exact get_same
    have hk1 : ∀ b, b < h.next → h1.objs.get b = h.objs.get b := fun b hb => by rw [hh1]; exact (get_ne (by omega)).trans (get_ne (by omega))
    have hA1 := (hk1 A (by omega)).trans hA
    have hM1 := (hk1 (lo - 2) (by omega)).trans hM
    have hba1 := (hk1 (lo - 1) (by omega)).trans hba
    have hv1 : RowIs h1 lo bv 43 2 vv (idsL k) := hv.kept (by omega) fun hb _ => hk1 _ hb
    have hle1 : h.next + 1 ≤ h1.next := by omega
    have n1 : A ≠ lo - 2 := by omega
    have n2 : A ≠ lo - 1 := by omega
    have n3 : lo - 1 ≠ lo - 2 := by omega
    have n4 : h.next ≠ lo - 2 := by omega
    have n5 : h.next ≠ lo - 1 := by omega
    have n6 : ∀ b, lo ≤ b → b ≠ lo - 2 ∧ b ≠ lo - 1 := fun b hb => by omega
    have n7 : ∀ b, b < lo - 2 → b ≠ lo - 2 ∧ b ≠ lo - 1 ∧ b < h.next ∧ b ≠ bv ∧ b < h1.next := fun b hb => by omega
    have n8 : lo ≤ h1.next := by omega
    have n9 : A < lo := by omega
    have n10 : k ≤ 1000 := by omega
    have n11 : lo - 2 < h1.next ∧ lo - 1 < h1.next ∧ lo - 2 ≠ bv ∧ lo - 1 ≠ bv ∧ lo - 2 ≠ A ∧ lo - 1 ≠ A := by omega
    refine runs_loop ?_
    refine runs_seq (runs_region ?_)
    refine ops_quiet (v := .lit (.bool true)) (fs := []) rfl (by
      simp only [quiet, e31, e32]
      show one (some (.lit (.bool (decide ((k : Int) < n))))) = _
      rw [decide_eq_true (by omega)]
      rfl) rfl ?_
    refine ops_nil ?_
    refine runs_seq (runs_cond true (by simp [ev_set]) (runs_skip ?_))
    refine runs_seq (runs_block (runs_seq (runs_region ?_)))
    refine ops_quiet (v := numV k) (fs := []) rfl (by simp only [quiet, ev_set]; exact congrArg (fun v => some (v, [])) e32) rfl ?_
    refine ops_quiet (v := .ptr bi (0 + k * 2)) (fs := []) rfl (by simp only [quiet, ev_set, e30, e32]; exact congrArg one (row_index hkn)) rfl ?_
    refine ops_quiet (v := .agg (idC k)) (fs := [.cells bi (0 + k * 2) (idC k)]) rfl (by simp only [quiet, ev_set]; exact row_load hi hkn) rfl ?_
    refine ops_effect (v := .ptr h.next 0) (hp' := ⟨h.objs.set h.next (.cells [.lit (.int .i64 0), .lit (.int .i64 0)] 43), h.next + 1⟩) rfl rfl rfl rfl (Nat.le_succ _) rfl ?_
    refine ops_quiet (v := numV k) (fs := []) rfl rfl rfl ?_
    refine ops_effect (v := .lit undef) (hp' := h1) rfl rfl rfl (by
      rw [hh1]
      exact store_eff (n := 2) (l := [.lit (.int .i64 0), .lit (.int .i64 0)]) (v := .agg (idC k)) rfl (by simp only [ev_set]; rfl) (by simp only [ev_set]; rfl) rfl get_same rfl) hle1 rfl ?_
    refine ops_nil ?_
    refine runs_seq (runs_drawn (ops := rdyOps6) rfl ?_)
    refine rdy_map Γ A h.next (lo - 2) k (.row bi 0 n n bi) (.row bl 0 n n bl) (.slice (lo - 1) 0 n n) vv _ h1 _ ?_ ?_ ?_ hA1 hD1 hM1 ?_
    · simp only [ev_set]; exact e0
    · simp only [ev_set]; rfl
    · simp only [ev_set]; rfl
    intro tm2 hev2
    refine runs_seq (runs_drawn (ops := rdyOps7) rfl ?_)
    refine rdy_ahead Γ A (lo - 2) (lo - 1) bv lo k n (.row bi 0 n n bi) (.row bl 0 n n bl) vv la tm2 ⟨h1.objs.set (lo - 2) (.map (mapL numV (k + 1)) (k + 1)), h1.next⟩ _ hkn ?_ ?_ ((get_ne n1).trans hA1) ((get_ne n3).trans hba1) hla (hv1.kept (Nat.le_refl _) fun _ hb => get_ne (n6 _ hb).1) ?_
    · rw [hev2 0 (by decide)]; simp only [ev_set]; exact e0
    · rw [hev2 2 (by decide)]; simp only [ev_set]; rfl
    intro tm3 la' hla' hev3
    have g0 : Fr.ev ⟨tm3, 72, []⟩ (.tmp 0) = .ptr A 0 := by rw [hev3 0 (by decide), hev2 0 (by decide)]; simp only [ev_set]; exact e0
    have g2 : Fr.ev ⟨tm3, 72, []⟩ (.tmp 2) = numV k := by rw [hev3 2 (by decide), hev2 2 (by decide)]; simp only [ev_set]; rfl
    have g3 : Fr.ev ⟨tm3, 72, []⟩ (.tmp 3) = .ptr h.next 0 := by rw [hev3 3 (by decide), hev2 3 (by decide)]; simp only [ev_set]; rfl
    have g30 : Fr.ev ⟨tm3, 72, []⟩ (.tmp 30) = .row bi 0 n n bi := by rw [hev3 30 (by decide), hev2 30 (by decide)]; simp only [ev_set]; exact e30
    have g31 : Fr.ev ⟨tm3, 72, []⟩ (.tmp 31) = .lit (.int .i64 (Int.ofNat n)) := by rw [hev3 31 (by decide), hev2 31 (by decide)]; simp only [ev_set]; exact e31
    have g32 : Fr.ev ⟨tm3, 72, []⟩ (.tmp 32) = .lit (.int .i64 (Int.ofNat k)) := by rw [hev3 32 (by decide), hev2 32 (by decide)]; simp only [ev_set]; exact e32
    have q3 : ∀ b, b ≠ lo - 1 → b ≠ lo - 2 → (Hp.mk ((h1.objs.set (lo - 2) (.map (mapL numV (k + 1)) (k + 1))).set (lo - 1) (.cells la' 3)) h1.next).objs.get b = h1.objs.get b := fun b hb1 hb2 => (get_ne hb1).trans (get_ne hb2)
    refine rdy_end Γ A lo n bi bl bv k la' vv tm3 ⟨(h1.objs.set (lo - 2) (.map (mapL numV (k + 1)) (k + 1))).set (lo - 1) (.cells la' 3), h1.next⟩ h.next n10 hkn g0 g2 g3 g30 g31 g32 ((q3 A n2 n1).trans hA1) ((get_ne n3.symm).trans get_same) get_same ((q3 _ n5 n4).trans hD1) ?_ ?_ (hv1.kept (Nat.le_refl _) fun _ hb => q3 _ (n6 _ hb).2 (n6 _ hb).1) hbv n8 n9 hAl hbi1 hbi2 hbl1 hbl2 _ ?_
    · exact (q3 bi (n7 bi hbi1).2.1 (n7 bi hbi1).1).trans ((hk1 bi (n7 bi hbi1).2.2.1).trans hi)
    · exact (q3 bl (n7 bl hbl1).2.1 (n7 bl hbl1).1).trans ((hk1 bl (n7 bl hbl1).2.2.1).trans hl)
    intro tm4 h4 vv' p0 p30 p31 p32 pA pM pba pi pl pv pn pk
    have pn : h4.next = h1.next + 2 := pn
    refine (ihr (k + 1) (by omega) tm4 h4 vv' (h1.next + 1) la' p0 p30 p31 p32 pA pM pba hla' (fun _ => pi) (fun _ => pl) pv (by omega) (by omega)).mono ?_
    rintro o ⟨w1, tm', vv2, bv2, w2, w3, w4, w5, w6, w7⟩
    exact ⟨w1, tm', vv2, bv2, w2, w3, w4, w5, fun b hb hne => (w6 b hb hne).trans ((pk b hb hne).trans ((q3 b (n7 b hb).2.1 (n7 b hb).1).trans (hk1 b (n7 b hb).2.2.1))), by omega⟩
end Go.Proofs.YtpfagdkpolhopaaGreatDoor.sheetNew
namespace Go.Proofs.YtpfagdkpolhopaaGreatDoor.sheetNew
open Go Go.Proofs.YtpfagdkpolhopaaGreatDoor.Ev

/-- An axis of the first n ids, all live, of which all is made. -/
def RdyAx (h : Hp) (F : Nat → Prop) (A n : Nat) : Prop := F A ∧ A < h.next ∧ ∃ vi vl M va vv bv, h.objs.get A = some (.cells (rdC vi vl M va vv) 87) ∧ RowF h F bv 43 2 vv (idsL n)
theorem RdyAx.kept {h h' : Hp} {F F' : Nat → Prop} {A n : Nat} (ha : RdyAx h F A n) (hn : h.next ≤ h'.next) (hg : ∀ b, F b → b < h.next → F' b ∧ h'.objs.get b = h.objs.get b) : RdyAx h' F' A n := by
  obtain ⟨a1, a2, vi, vl, M, va, vv, bv, a3, a4⟩ := ha
  exact ⟨(hg A a1 a2).1, by omega, vi, vl, M, va, vv, bv, (hg A a1 a2).2.trans a3, a4.kept hn (hg bv)⟩
def AxAt (h : Hp) (F : Nat → Prop) (A n : Nat) : Prop := NewAx h F A n ∨ RdyAx h F A n
theorem AxAt.kept {h h' : Hp} {F F' : Nat → Prop} {A n : Nat} (ha : AxAt h F A n) (hn : h.next ≤ h'.next) (hg : ∀ b, F b → b < h.next → F' b ∧ h'.objs.get b = h.objs.get b) : AxAt h' F' A n := ha.elim (fun h => .inl (h.kept hn hg)) fun h => .inr (h.kept hn hg)
theorem AxAt.at {h : Hp} {F : Nat → Prop} {A n : Nat} (ha : AxAt h F A n) : A < h.next := ha.elim (fun h => h.2.1) fun h => h.2.1

theorem RowF.toIs {h : Hp} {F : Nat → Prop} {bl : Nat} {e : TypeId} {size : Nat} {v : SV} {l : List (List SV)} (hr : RowF h F bl e size v l) : RowIs h 0 bl e size v l := by
  rcases hr with hr | ⟨r1, _, r3, r4⟩
  · exact .inl hr
  · exact .inr ⟨r1, Nat.zero_le _, r3, r4⟩
theorem RowF.lenIds {h h' : Hp} {F : Nat → Prop} {bl n : Nat} {v : SV} (hr : RowF h F bl 43 2 v (idsL n)) : lenQ Tryz.prog h' 27 v = some (numV n, []) := by
  have := RowIs.len (P := Tryz.prog) tyIds hr.toIs (nilIds h')
  rw [idsL_len] at this
  exact this

set_option maxRecDepth 10000 in
theorem infoInt : ∃ i, Tryz.prog.info? 3 = some i ∧ i.zero = some (.int .i64 0) ∧ i.size = 1 ∧ i.bytes = 8 := ⟨_, rfl, rfl, rfl, rfl⟩
theorem repeat_len {z : List SV} : ∀ n, (repeatL z n).length = n * z.length
  | 0 => by simp [repeatL]
  | n + 1 => by rw [repeatL, List.length_append, repeat_len n, Nat.succ_mul]; omega
theorem make_ints {h : Hp} {n : Nat} (hn : n ≤ 1000) : ∃ la : List SV, la.length = n ∧ makeSliceE Tryz.prog h 85 (numV n) (numV n) = some (.slice h.next 0 n n, ⟨h.objs.set h.next (.cells la 3), h.next + 1⟩) := by
  obtain ⟨i, hi, hz, hsz, hby⟩ := infoInt
  refine ⟨bif Nat.beq (n * i.size) 0 then [] else repeatL (SV.cells (.lit (.int .i64 0))) n, ?_, ?_⟩
  · cases hb : Nat.beq (n * i.size) 0 with
    | true =>
      have := eq_of_beq hb
      rw [hsz] at this
      simp
      omega
    | false =>
      rw [cond_false, repeat_len]
      show n * 1 = n
      omega
  · have hc : (Nat.ble n n && Nat.ble (i.bytes * n) 1048576 && Nat.ble n 1048576 && Nat.beq (SV.cells (.lit (.int .i64 0))).length i.size) = true := by
      rw [Nat.ble_eq_true_of_le (Nat.le_refl _), Nat.ble_eq_true_of_le (show i.bytes * n ≤ 1048576 by rw [hby]; omega), Nat.ble_eq_true_of_le (show n ≤ 1048576 by omega), hsz]
      rfl
    simp only [makeSliceE, tyInts, numV, hi, hz, hc, cond_true, Hp.new]

noncomputable def rdyTail : Code := seqR (seqR (seqR (bodyOf Tryz.f25)))

set_option maxHeartbeats 8000000 in
set_option maxRecDepth 20000 in
theorem ready_runs (Γ : Glob) (h : Hp) (F : Nat → Prop) (A n : Nat) (hF : ∀ b, h.next ≤ b → F b) (hn : n ≤ 1000) (hax : NewAx h F A n) :
    Runs Tryz.prog Γ (.call 25 [.ptr A 0] h) fun r => RdyAx r.hp F A n ∧ (∀ b, b < h.next → b ≠ A → r.hp.objs.get b = h.objs.get b) ∧ h.next ≤ r.hp.next := by
  obtain ⟨hFA, hAn, vi, vl, bi, bl, hA, hi, hl⟩ := hax
  obtain ⟨la, hla, hmake⟩ := make_ints (h := ⟨(h.objs.set h.next (.map [] 0)).set A (.cells (rdC vi vl h.next (.lit (.slice none 0 0)) (.lit (.slice none 0 0))) 87), h.next + 1⟩) hn
  have hle : h.next + 1 ≤ h.next + 2 := by omega
  have hAn0 : A ≠ h.next := by omega
  have hAn1 : A ≠ h.next + 1 := by omega
  have hvi : 0 < n → vi = .row bi 0 n n bi ∧ bi < h.next ∧ bi ≠ A ∧ h.objs.get bi = some (.row (idsL n).flatten 43 n bi 2) := fun hp => by
    rcases hi with ⟨_, r2⟩ | ⟨r1, _, r3, r4⟩
    · have := congrArg List.length r2
      rw [idsL_len] at this
      simp at this
      omega
    · rw [idsL_len] at r1 r4
      refine ⟨r1, r3, fun e => ?_, r4⟩
      rw [e, hA] at r4
      cases r4
  have hvl : 0 < n → vl = .row bl 0 n n bl ∧ bl < h.next ∧ bl ≠ A ∧ h.objs.get bl = some (.row (trues n).flatten 4 n bl 1) := fun hp => by
    have tl : (trues n).length = n := by simp [trues]
    rcases hl with ⟨_, r2⟩ | ⟨r1, _, r3, r4⟩
    · have := congrArg List.length r2
      rw [tl] at this
      simp at this
      omega
    · rw [tl] at r1 r4
      refine ⟨r1, r3, fun e => ?_, r4⟩
      rw [e, hA] at r4
      cases r4
  have hA1 : (h.objs.set h.next (.map [] 0)).get A = some (.cells (axC vi vl) 87) := (get_ne hAn0).trans hA
  have hA2 : ((h.objs.set h.next (.map [] 0)).set A (.cells (rdC vi vl h.next (.lit (.slice none 0 0)) (.lit (.slice none 0 0))) 87)).get A = some (.cells (rdC vi vl h.next (.lit (.slice none 0 0)) (.lit (.slice none 0 0))) 87) := get_same
  obtain ⟨h3, hh3⟩ : ∃ h3 : Hp, h3 = ⟨((((h.objs.set h.next (.map [] 0)).set A (.cells (rdC vi vl h.next (.lit (.slice none 0 0)) (.lit (.slice none 0 0))) 87)).set (h.next + 1) (.cells la 3)).set A (.cells (rdC vi vl h.next (.slice (h.next + 1) 0 n n) (.lit (.slice none 0 0))) 87)), h.next + 2⟩ := ⟨_, rfl⟩
  have hn3 : h3.next = h.next + 2 := by rw [hh3]
  have hA3 : h3.objs.get A = some (.cells (rdC vi vl h.next (.slice (h.next + 1) 0 n n) (.lit (.slice none 0 0))) 87) := by rw [hh3]; exact get_same
  have hM3 : h3.objs.get h.next = some (.map [] 0) := by rw [hh3]; exact (get_ne hAn0.symm).trans ((get_ne (by omega)).trans ((get_ne hAn0.symm).trans get_same))
  have hba3 : h3.objs.get (h.next + 1) = some (.cells la 3) := by rw [hh3]; exact (get_ne hAn1.symm).trans get_same
  have hk3 : ∀ b, b < h.next → b ≠ A → h3.objs.get b = h.objs.get b := fun b hb hne => by rw [hh3]; exact (get_ne hne).trans ((get_ne (by omega)).trans ((get_ne hne).trans (get_ne (by omega))))
  refine runs_call Tryz.func25 rfl ?_
  refine runs_seq (runs_seq (runs_region ?_))
  refine ops_quiet (v := .ptr A 0) (fs := []) rfl rfl rfl ?_
  refine ops_quiet (v := .ptr A 0) (fs := []) rfl rfl rfl ?_
  refine ops_quiet (v := .ptr A 2) (fs := []) rfl rfl rfl ?_
  refine ops_quiet (v := .lit (.map none)) (fs := [.cells A 2 [.lit (.map none)]]) rfl (by simp only [quiet, ev_set]; exact load_cell rfl hA rfl) rfl ?_
  refine ops_quiet (v := .lit (.bool false)) (fs := []) rfl rfl rfl ?_
  refine ops_nil ?_
  refine runs_cond false rfl (runs_skip ?_)
  refine runs_seq (runs_region ?_)
  refine ops_quiet (v := .ptr A 0) (fs := []) rfl rfl rfl ?_
  refine ops_quiet (v := .ptr A 0) (fs := []) rfl rfl rfl ?_
  refine ops_quiet (v := .ptr A 0) (fs := []) rfl rfl rfl ?_
  refine ops_quiet (v := .ptr A 0) (fs := []) rfl rfl rfl ?_
  refine ops_quiet (v := vi) (fs := [.cells A 0 [vi]]) rfl (by simp only [quiet, ev_set]; exact load_cell rfl hA rfl) rfl ?_
  refine ops_quiet (v := numV n) (fs := []) rfl hi.lenIds rfl ?_
  refine ops_effect (v := .map h.next) (hp' := ⟨h.objs.set h.next (.map [] 0), h.next + 1⟩) rfl rfl rfl rfl (Nat.le_succ _) rfl ?_
  refine ops_quiet (v := .ptr A 0) (fs := []) rfl rfl rfl ?_
  refine ops_quiet (v := .ptr A 2) (fs := []) rfl rfl rfl ?_
  refine ops_effect (v := .lit undef) (hp' := ⟨(h.objs.set h.next (.map [] 0)).set A (.cells (rdC vi vl h.next (.lit (.slice none 0 0)) (.lit (.slice none 0 0))) 87), h.next + 1⟩) rfl rfl rfl (store_eff (n := 1) (v := .map h.next) (l := axC vi vl) rfl rfl rfl rfl hA1 rfl) (Nat.le_refl _) rfl ?_
  refine ops_nil ?_
  refine runs_seq (runs_region ?_)
  refine ops_quiet (v := .ptr A 0) (fs := []) rfl rfl rfl ?_
  refine ops_quiet (v := .ptr A 0) (fs := []) rfl rfl rfl ?_
  refine ops_quiet (v := .ptr A 0) (fs := []) rfl rfl rfl ?_
  refine ops_quiet (v := .ptr A 0) (fs := []) rfl rfl rfl ?_
  refine ops_quiet (v := vi) (fs := [.cells A 0 [vi]]) rfl (by simp only [quiet, ev_set]; exact load_cell rfl hA2 rfl) rfl ?_
  refine ops_quiet (v := numV n) (fs := []) rfl hi.lenIds rfl ?_
  refine ops_effect (v := .slice (h.next + 1) 0 n n) (hp' := ⟨((h.objs.set h.next (.map [] 0)).set A (.cells (rdC vi vl h.next (.lit (.slice none 0 0)) (.lit (.slice none 0 0))) 87)).set (h.next + 1) (.cells la 3), h.next + 2⟩) rfl rfl rfl (congrArg val hmake) hle rfl ?_
  refine ops_quiet (v := .ptr A 0) (fs := []) rfl rfl rfl ?_
  refine ops_quiet (v := .ptr A 3) (fs := []) rfl rfl rfl ?_
  refine ops_effect (v := .lit undef) (hp' := h3) rfl rfl rfl (by rw [hh3]; exact store_eff (n := 1) (v := .slice (h.next + 1) 0 n n) (l := rdC vi vl h.next (.lit (.slice none 0 0)) (.lit (.slice none 0 0))) rfl rfl rfl rfl ((get_ne hAn1).trans hA2) rfl) (Nat.le_of_eq hn3.symm) rfl ?_
  refine ops_nil ?_
  refine runs_seq (runs_region ?_)
  refine ops_quiet (v := .ptr A 0) (fs := []) rfl rfl rfl ?_
  refine ops_quiet (v := .ptr A 0) (fs := []) rfl rfl rfl ?_
  refine ops_quiet (v := .ptr A 0) (fs := []) rfl rfl rfl ?_
  refine ops_quiet (v := vi) (fs := [.cells A 0 [vi]]) rfl (by simp only [quiet, ev_set]; exact load_cell rfl hA3 rfl) rfl ?_
  refine ops_quiet (v := numV n) (fs := []) rfl hi.lenIds rfl ?_
  refine ops_quiet rfl rfl rfl ?_
  refine ops_nil ?_
  refine runs_block ?_
  refine (rdy_loop Γ A (h.next + 2) n bi bl vi vl hn (fun hp => ⟨(hvi hp).1, (hvi hp).2.1, (hvi hp).2.2.1⟩) (fun hp => ⟨(hvl hp).1, (hvl hp).2.1, (hvl hp).2.2.1⟩) hAn (by omega) n 0 (by omega) _ h3 (.lit (.slice none 0 0)) (h.next + 2) la rfl rfl rfl rfl hA3 hM3 hba3 hla
    (fun hp => (hk3 bi (hvi hp).2.1 (hvi hp).2.2.1).trans (hvi hp).2.2.2) (fun hp => (hk3 bl (hvl hp).2.1 (hvl hp).2.2.1).trans (hvl hp).2.2.2) (.inl ⟨rfl, rfl⟩) (Nat.le_refl _) (Nat.le_of_eq hn3.symm)).mono ?_
  rintro ⟨ex, fr, hp, v⟩ ⟨he, tm', vv', bv', hfr, hA', hv', hbv', hk', hn'⟩
  have he : ex = .exit 0 := he
  have hfr : fr = ⟨tm', 72, []⟩ := hfr
  subst he hfr
  have hA' : hp.objs.get A = some (.cells (rdC vi vl h.next (.slice (h.next + 1) 0 n n) vv') 87) := hA'
  have hn' : h3.next ≤ hp.next := hn'
  have hk' : ∀ b, b < h.next → b ≠ A → hp.objs.get b = h3.objs.get b := hk'
  refine ⟨_, rfl, ⟨hFA, ?_, vi, vl, h.next, _, vv', bv', hA', rowF_of (lo := h.next + 2) hv' fun h1 _ => hF _ (Nat.le_trans (Nat.le_add_right _ _) h1)⟩, fun b hb hne => (hk' b hb hne).trans (hk3 b hb hne), ?_⟩
  · show A < hp.next; omega
  · show h.next ≤ hp.next; omega
end Go.Proofs.YtpfagdkpolhopaaGreatDoor.sheetNew
namespace Go.Proofs.YtpfagdkpolhopaaGreatDoor.sheetNew
open Go Go.Proofs.YtpfagdkpolhopaaGreatDoor.Ev

set_option maxHeartbeats 8000000 in
set_option maxRecDepth 20000 in
theorem ready_again (Γ : Glob) (h : Hp) (F : Nat → Prop) (A n : Nat) (hax : RdyAx h F A n) : Runs Tryz.prog Γ (.call 25 [.ptr A 0] h) fun r => r.hp = h := by
  obtain ⟨_, _, vi, vl, M, va, vv, bv, hA, _⟩ := hax
  refine runs_call Tryz.func25 rfl ?_
  refine runs_seq (runs_seq (runs_region ?_))
  refine ops_quiet (v := .ptr A 0) (fs := []) rfl rfl rfl ?_
  refine ops_quiet (v := .ptr A 0) (fs := []) rfl rfl rfl ?_
  refine ops_quiet (v := .ptr A 2) (fs := []) rfl rfl rfl ?_
  refine ops_quiet (v := .map M) (fs := [.cells A 2 [.map M]]) rfl (by simp only [quiet, ev_set]; exact load_cell rfl hA rfl) rfl ?_
  refine ops_quiet (v := .lit (.bool true)) (fs := []) rfl rfl rfl ?_
  refine ops_nil ?_
  refine runs_cond true rfl (runs_ret ?_)
  exact ⟨_, rfl, rfl⟩

/-- What a call on an axis leaves: the axis, and all else. -/
def Left (h h' : Hp) (A : Nat) : Prop := (∀ b, b < h.next → b ≠ A → h'.objs.get b = h.objs.get b) ∧ h.next ≤ h'.next
theorem Left.refl (h : Hp) (A : Nat) : Left h h A := ⟨fun _ _ _ => rfl, Nat.le_refl _⟩
theorem Left.trans {a b c : Hp} {A : Nat} (h : Left a b A) (h' : Left b c A) : Left a c A := ⟨fun k hk hne => (h'.1 k (Nat.lt_of_lt_of_le hk h.2) hne).trans (h.1 k hk hne), Nat.le_trans h.2 h'.2⟩

theorem ready_any (Γ : Glob) (h : Hp) (F : Nat → Prop) (A n : Nat) (hF : ∀ b, h.next ≤ b → F b) (hn : n ≤ 1000) (hax : AxAt h F A n) : Runs Tryz.prog Γ (.call 25 [.ptr A 0] h) fun r => RdyAx r.hp F A n ∧ Left h r.hp A := by
  rcases hax with hax | hax
  · exact (ready_runs Γ h F A n hF hn hax).mono fun r ⟨h1, h2, h3⟩ => ⟨h1, h2, h3⟩
  · exact (ready_again Γ h F A n hax).mono fun r hr => by rw [hr]; exact ⟨hax, Left.refl _ _⟩

set_option maxHeartbeats 8000000 in
set_option maxRecDepth 20000 in
theorem len_runs (Γ : Glob) (h : Hp) (F : Nat → Prop) (A n : Nat) (hF : ∀ b, h.next ≤ b → F b) (hn : n ≤ 1000) (hax : AxAt h F A n) : Runs Tryz.prog Γ (.call 8 [.ptr A 0] h) fun r => r.v = numV n ∧ RdyAx r.hp F A n ∧ Left h r.hp A := by
  refine runs_call Tryz.func8 rfl ?_
  refine runs_seq (runs_region ?_)
  refine ops_quiet rfl rfl rfl ?_
  refine ops_nil ?_
  refine runs_seq (runs_seq (runs_region ?_))
  refine ops_quiet (v := .ptr A 0) (fs := []) rfl rfl rfl ?_
  refine ops_quiet (v := .lit (.bool false)) (fs := []) rfl rfl rfl ?_
  refine ops_nil ?_
  refine runs_cond false rfl (runs_skip ?_)
  refine runs_seq (runs_region ?_)
  refine ops_quiet (v := .ptr A 0) (fs := []) rfl rfl rfl ?_
  refine ops_call (f := 25) (args := [.ptr A 0]) rfl rfl rfl rfl ?_
  refine (ready_any Γ h F A n hF hn hax).mono ?_
  rintro ⟨ex, fr, hp, v⟩ ⟨hrd, hleft⟩
  have hrd : RdyAx hp F A n := hrd
  have hleft : Left h hp A := hleft
  obtain ⟨_, _, vi, vl, M, va, vv, bv, hA, hv⟩ := id hrd
  refine ⟨_, rfl, ?_⟩
  refine ops_nil ?_
  refine runs_seq (runs_region ?_)
  refine ops_quiet (v := .ptr A 0) (fs := []) rfl rfl rfl ?_
  refine ops_quiet (v := .ptr A 0) (fs := []) rfl rfl rfl ?_
  refine ops_quiet (v := .ptr A 4) (fs := []) rfl rfl rfl ?_
  refine ops_quiet (v := vv) (fs := [.cells A 4 [vv]]) rfl (by simp only [quiet, ev_set]; exact load_cell rfl hA rfl) rfl ?_
  refine ops_quiet (v := numV n) (fs := []) rfl hv.lenIds rfl ?_
  refine ops_quiet rfl rfl rfl ?_
  refine ops_nil ?_
  refine runs_ret ?_
  exact ⟨_, rfl, rfl, hrd, hleft⟩

/-- The id at a place. -/
def atOk (n : Nat) (p : Int) : Bool := decide (0 ≤ p) && decide (p < n)
def atC (n : Nat) (p : Int) : List SV := if atOk n p then idC p.toNat else [.lit (.int .i64 0), .lit (.int .i64 0)]
theorem atC_one (n : Nat) (p : Int) : (atC n p).length = 2 ∧ (atC n p).all SV.one = true := by
  unfold atC
  split <;> exact ⟨rfl, rfl⟩
end Go.Proofs.YtpfagdkpolhopaaGreatDoor.sheetNew
