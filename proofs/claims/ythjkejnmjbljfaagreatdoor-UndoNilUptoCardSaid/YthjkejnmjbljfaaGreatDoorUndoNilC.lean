/-
  WHAT 'counterpaneref06.Nodes' COMES TO: a list of as many nodes as a tree has, for every tree that can be read; by the author of this claim, in the calculus of runs (EvRuns).
-/
import Derived.Test.YthjkejnmjbljfaaGreatDoorEvOwn
import Derived.Test.YthjkejnmjbljfaaGreatDoorProg
namespace Go.Proofs.YthjkejnmjbljfaaGreatDoor.undoNil
open Go Go.Proofs.YthjkejnmjbljfaaGreatDoor.Ev

/-- The elements of a slice that came in. -/
def KidsAt (Γ : Glob) (size : Nat) (L : Option SV) (l : List (List SV)) : Prop :=
  (∃ p cap, L = some (.lit (.slice p 0 cap)) ∧ l = []) ∨ ∃ g off cap, L = some (.lit (.slice (some ⟨g, off, none⟩) l.length cap)) ∧ ∀ k cs, l[k]? = some cs → ∀ h, readCells Γ h (.lit (.pointer (some ⟨g, off + k * size, none⟩))) size = some (cs, [])
/-- A node that came in, and how many nodes there are in it. -/
def IsNd (Γ : Glob) : Nat → List SV → Nat → Prop
  | 0, _, _ => False
  | f + 1, cs, s => ∃ kids : List (List SV × Nat), cs.length = 22 ∧ cs.all SV.one = true ∧ s = 1 + (kids.map (·.2)).sum ∧ (∀ x ∈ kids, IsNd Γ f x.1 x.2) ∧ KidsAt Γ 22 cs[21]? (kids.map (·.1))

theorem fill_one {place : Nat → Option (Nat × Nat)} {l cs : List SV} (hp : place 0 = some (0, l.length)) (hc : cs.length = l.length) (ho : cs.all SV.one = true) : fillQ place l [(0, .agg cs)] = some cs := by
  have hsp : splice l 0 cs = some cs := by
    simp only [splice, Nat.zero_add, hc, Nat.ble_eq_true_of_le (Nat.le_refl _), ho, Bool.and_self, cond_true, List.take_zero, List.nil_append, List.drop_length, List.append_nil]
  simp only [fillQ, hp, SV.cells, beq_t hc, cond_true, hsp]

theorem cut_all {cs : List SV} {n : Nat} (h : cs.length = n) : cut cs 0 n = some cs := by rw [← h]; exact cut_whole cs
def seqL : Code → Code
  | .seq a _ => a
  | c => c
def seqR : Code → Code
  | .seq _ b => b
  | c => c
def inBlk : Code → Code
  | .block _ c => c
  | c => c
def bodyOf (f : Func) : Code := match f.body with
  | some c => c
  | none => .skip
noncomputable def nodesLoop : Code := inBlk (seqR (seqL (seqR (seqR (bodyOf Tryz.f29)))))

theorem load_cell {P : Program} {Γ : Glob} {h : Hp} {t : TypeId} {b k : Nat} {cs : List SV} {e : TypeId} {v : SV} (ht : tyAgg P t = some false) (hb : h.objs.get b = some (.cells cs e)) (hv : cs[k]? = some v) : loadQ P Γ h t (.ptr b k) = some (v, [.cells b k [v]]) := by
  have hcut : cut cs k 1 = some [v] := by
    have : (cs.drop k).take 1 = [v] := by rw [List.take_one, List.head?_drop, hv]; rfl
    simp only [cut, this]; rfl
  simp only [loadQ, ht, readCells, knownCells, hb, Option.bind_some, hcut]

theorem wrap_nat {n : Nat} (hn : n ≤ 4000000) : IntKind.i64.wrap (n : Int) = (n : Int) := by
  have h1 : (n : Int) % 2 ^ 64 = (n : Int) := Int.emod_eq_of_lt (by omega) (by omega)
  have h2 : ¬ ((n : Int) ≥ 2 ^ (64 - 1)) := by omega
  simp only [IntKind.wrap, IntKind.signed, IntKind.bits, h1, h2, decide_false, Bool.and_false, Bool.false_eq_true, if_false]

theorem Own.kept {h h' : Hp} {lo : Nat} {e : TypeId} {size : Nat} {v : SV} {n : Nat} {l : List SV} (ho : Own h lo e size v n l) (hk : Kept h.next h h') : Own h' lo e size v n l := by
  obtain ⟨h1, h2, b, h3, h4, h5⟩ := ho
  refine ⟨h1, h2, b, h3, Nat.lt_of_lt_of_le h4 hk.next, ?_⟩
  rw [hk.old b h4]
  exact h5

set_option maxRecDepth 10000 in
theorem info36 : ∃ i z, Tryz.prog.info? 36 = some i ∧ i.zero = some z ∧ i.size = 22 ∧ i.bytes ≤ 1000 ∧ (SV.cells (.lit z)).length = 22 := ⟨_, _, rfl, rfl, rfl, by decide, rfl⟩

theorem index_lit {P : Program} {t e : TypeId} {s g off len cap k : Nat} (ht : tyU P t = some (.slice e)) (hs : tySize P e = some s) (hk : k < len) :
    indexAddrQ P t (.lit (.slice (some ⟨g, off, none⟩) len cap)) (.lit (.int .i64 (Int.ofNat k))) = some (.lit (.pointer (some ⟨g, off + k * s, none⟩))) := by
  have hb : Nat.blt k len = true := Nat.ble_eq_true_of_le hk
  simp only [indexAddrQ, ht, hs, idxQ, hb, cond_true]

set_option maxHeartbeats 4000000 in
set_option maxRecDepth 10000 in
theorem nodes_loop (Γ : Glob) (cs : List SV) (kids : List (List SV × Nat)) (s B : Nat) (hs : s ≤ 1048576) (hkn : kids.length ≤ 1048576) (hk : KidsAt Γ 22 cs[21]? (kids.map (·.1)))
    (ih : ∀ x ∈ kids, 0 < x.2 ∧ ∀ h : Hp, Runs Tryz.prog Γ (.call 29 [.agg x.1] h) fun r => ∃ l, Own r.hp h.next 36 22 r.v x.2 l ∧ Kept h.next h r.hp) :
    ∀ (rem k : Nat), k + rem = kids.length → ∀ (tm : T SV) (h : Hp) (v : SV) (n : Nat) (l : List SV), Fr.ev ⟨tm, 23, []⟩ (.tmp 1) = .ptr B 0 → Fr.ev ⟨tm, 23, []⟩ (.tmp 3) = v → Fr.ev ⟨tm, 23, []⟩ (.tmp 4) = .lit (.int .i64 (Int.ofNat k)) →
      h.objs.get B = some (.cells cs 36) → B < h.next → Own h (B + 1) 36 22 v n l → n + ((kids.drop k).map (·.2)).sum = s →
      Runs Tryz.prog Γ (.code nodesLoop none ⟨tm, 23, []⟩ h) fun o => o.exit = .exit 0 ∧ ∃ tm' l', o.fr = ⟨tm', 23, []⟩ ∧ Own o.hp (B + 1) 36 22 (Fr.ev ⟨tm', 23, []⟩ (.tmp 3)) s l' ∧ Kept (B + 1) h o.hp := by
  have hL : ∃ Lv, cs[21]? = some (.lit Lv) ∧ ∀ h, lenQ Tryz.prog h 34 (.lit Lv) = some (.lit (.int .i64 kids.length), []) := by
    rcases hk with ⟨_, _, h1, h2⟩ | ⟨g, off, cap, h1, _⟩
    · have : kids = [] := by simpa using h2
      subst this
      exact ⟨_, h1, fun _ => rfl⟩
    · rw [List.length_map] at h1
      exact ⟨_, h1, fun _ => rfl⟩
  obtain ⟨Lv, hLv, hlenQ⟩ := hL
  intro rem
  induction rem with
  | zero =>
    intro k hkr tm h v n l e1 e3 e4 hB hBn hown hsum
    have hkl : k = kids.length := by omega
    refine runs_loop ?_
    refine runs_seq (runs_seq (runs_region ?_))
    refine ops_quiet rfl rfl rfl ?_
    rw [e4]
    refine ops_quiet (v := .ptr B 21) (fs := []) rfl (by simp only [quiet, ev_set, e1]; rfl) rfl ?_
    refine ops_quiet (v := .lit Lv) (fs := [.cells B 21 [.lit Lv]]) rfl (by simp only [quiet, ev_set]; exact load_cell rfl hB hLv) rfl ?_
    refine ops_quiet (v := .lit (.int .i64 kids.length)) (fs := []) rfl (hlenQ h) rfl ?_
    refine ops_quiet (v := .lit (.bool (decide ((k : Int) < kids.length)))) (fs := []) rfl rfl rfl ?_
    refine ops_nil ?_
    have hd : decide ((k : Int) < kids.length) = false := decide_eq_false (by omega)
    rw [hd]
    refine runs_cond false (by simp [ev_set]) ?_
    refine runs_exit ?_
    refine ⟨rfl, _, l, rfl, ?_, Kept.refl _ _⟩
    have hn : n = s := by
      have : kids.drop k = [] := List.drop_eq_nil_of_le (by omega)
      rw [this] at hsum
      simpa using hsum
    subst hn
    simp only [ev_set, e3]
    exact hown
  | succ rem ihr =>
    intro k hkr tm h v n l e1 e3 e4 hB hBn hown hsum
    have hkl : k < kids.length := by omega
    obtain ⟨g, off, cap, hLs, hread⟩ : ∃ g off cap, Lv = .slice (some ⟨g, off, none⟩) kids.length cap ∧ ∀ k cs, (kids.map (·.1))[k]? = some cs → ∀ h, readCells Γ h (.lit (.pointer (some ⟨g, off + k * 22, none⟩))) 22 = some (cs, []) := by
      rcases hk with ⟨_, _, _, h2⟩ | ⟨g, off, cap, h1, h2⟩
      · have : kids = [] := by simpa using h2
        subst this
        simp at hkl
      · rw [hLv] at h1
        rw [List.length_map] at h1
        exact ⟨g, off, cap, by injection h1 with h1; injection h1, h2⟩
    subst hLs
    refine runs_loop ?_
    refine runs_seq (runs_seq (runs_region ?_))
    refine ops_quiet rfl rfl rfl ?_
    rw [e4]
    refine ops_quiet (v := .ptr B 21) (fs := []) rfl (by simp only [quiet, ev_set, e1]; rfl) rfl ?_
    refine ops_quiet (v := .lit (.slice (some ⟨g, off, none⟩) kids.length cap)) (fs := [.cells B 21 [.lit (.slice (some ⟨g, off, none⟩) kids.length cap)]]) rfl (by simp only [quiet, ev_set]; exact load_cell rfl hB hLv) rfl ?_
    refine ops_quiet (v := .lit (.int .i64 kids.length)) (fs := []) rfl (hlenQ h) rfl ?_
    refine ops_quiet (v := .lit (.bool (decide ((k : Int) < kids.length)))) (fs := []) rfl rfl rfl ?_
    refine ops_nil ?_
    have hd : decide ((k : Int) < kids.length) = true := decide_eq_true (by omega)
    rw [hd]
    refine runs_cond true (by simp [ev_set]) ?_
    refine runs_skip ?_
    refine runs_seq (runs_block (runs_region ?_))
    refine ops_quiet (v := v) (fs := []) rfl (by simp [quiet, ev_set, e3]) rfl ?_
    refine ops_quiet (v := .ptr B 21) (fs := []) rfl (by simp only [quiet, ev_set, e1]; rfl) rfl ?_
    refine ops_quiet (v := .lit (.slice (some ⟨g, off, none⟩) kids.length cap)) (fs := [.cells B 21 [.lit (.slice (some ⟨g, off, none⟩) kids.length cap)]]) rfl (by simp only [quiet, ev_set]; exact load_cell rfl hB hLv) rfl ?_
    refine ops_quiet (v := .lit (.int .i64 (Int.ofNat k))) (fs := []) rfl (by simp [quiet, ev_set, e4]) rfl ?_
    have hkid : ∃ x, kids[k]? = some x ∧ x ∈ kids := ⟨kids[k], List.getElem?_eq_getElem hkl, List.getElem_mem hkl⟩
    obtain ⟨x, hx, hxm⟩ := hkid
    obtain ⟨hx0, hxr⟩ := ih x hxm
    refine ops_quiet (v := .lit (.pointer (some ⟨g, off + k * 22, none⟩))) (fs := []) rfl (by
      have hq := index_lit (P := Tryz.prog) (t := 34) (e := 36) (s := 22) (g := g) (off := off) (cap := cap) rfl rfl hkl
      simp only [quiet, ev_set]
      exact congrArg one hq) rfl ?_
    refine ops_quiet (v := .agg x.1) (fs := []) rfl (by
      have hr := hread k x.1 (by rw [List.getElem?_map, hx]; rfl) h
      simp only [quiet, ev_set, if_true, loadQ, show tyAgg Tryz.prog 36 = some true from rfl, show tySize Tryz.prog 36 = some 22 from rfl, hr]) rfl ?_
    refine ops_call (f := 29) (args := [.agg x.1]) rfl rfl (by simp [calleeOf, ev_set]; rfl) rfl ?_
    refine (hxr h).mono fun r ⟨l2, hown2, hkept⟩ => ⟨_, rfl, ?_⟩
    obtain ⟨i, z, hi, hz, hsz, hby, hzs⟩ := info36
    have hown1 := Own.kept hown hkept
    have hBr : r.hp.objs.get B = some (.cells cs 36) := (hkept.old B hBn).trans hB
    have hnx := hkept.next
    have hsz' : 0 < i.size := by omega
    have hsplit : (kids.drop k).map (·.2) = x.2 :: (kids.drop (k + 1)).map (·.2) := by
      have hxe : kids[k] = x := by
        have := List.getElem?_eq_getElem hkl
        rw [hx] at this
        exact (Option.some.inj this).symm
      rw [List.drop_eq_getElem_cons hkl, List.map_cons, hxe]
    rw [hsplit, List.sum_cons] at hsum
    have a1 : tyU Tryz.prog 34 = some (.slice 36) := rfl
    have o1 : Own r.hp (B + 1) 36 i.size v n l := by rw [hsz]; exact hown1
    have o2 : Own r.hp h.next 36 i.size r.v x.2 l2 := by rw [hsz]; exact hown2
    have z1 : (SV.cells (.lit z)).length = i.size := by rw [hsz]; exact hzs
    have n1 : n ≤ 2000000 := by omega
    have n2 : x.2 ≤ 2000000 := by omega
    have n3 : B + 1 ≤ r.hp.next := by omega
    obtain ⟨v', h', happ, hown', hkept'⟩ := append_own (Γ := Γ) a1 hi hz hby hsz' z1 o1 o2 hx0 n1 n2 n3
    refine ops_effect (v := v') (hp' := h') rfl rfl rfl (by simp only [effect, ev_set]; exact congrArg val happ) hkept'.next rfl ?_
    refine ops_quiet (v := v') (fs := []) rfl rfl rfl ?_
    refine ops_nil ?_
    rw [show ∀ fr hp v, atEnd 1 ⟨.normal, fr, hp, v⟩ = ⟨.normal, fr, hp, v⟩ from fun _ _ _ => rfl]
    refine runs_region ?_
    refine ops_quiet (v := .lit (.int .i64 (Int.ofNat k))) (fs := []) rfl (by simp only [quiet, ev_set]; exact congrArg (fun v => some (v, [])) e4) rfl ?_
    refine ops_quiet (v := .lit (.int .i64 (Int.ofNat (k + 1)))) (fs := []) rfl (by
      have hw : IntKind.i64.wrap ((k : Int) + 1) = ((k + 1 : Nat) : Int) := wrap_nat (n := k + 1) (by omega)
      simp only [quiet, ev_set]
      show one (some (.lit (.int .i64 (IntKind.i64.wrap ((k : Int) + 1))))) = _
      rw [hw]
      rfl) rfl ?_
    refine ops_quiet (v := .lit (.int .i64 (Int.ofNat (k + 1)))) (fs := []) rfl rfl rfl ?_
    refine ops_nil ?_
    rw [hsz] at hown'
    refine (ihr (k + 1) (by omega) _ h' v' (n + x.2) (l ++ l2) ?_ ?_ ?_ ((hkept'.old B (Nat.lt_succ_self _)).trans hBr) (by have := hkept'.next; omega) hown' (by omega)).mono ?_
    · simp only [ev_set]; exact e1
    · simp only [ev_set]; rfl
    · simp only [ev_set]; rfl
    · rintro o ⟨h1, tm', l', h2, h3, h4⟩
      exact ⟨h1, tm', l', h2, h3, ((hkept.less (by omega)).trans hkept').trans h4⟩

theorem sum_pos : ∀ {l : List (List SV × Nat)}, (∀ x ∈ l, 0 < x.2) → l.length ≤ (l.map (·.2)).sum
  | [], _ => Nat.le_refl _
  | a :: l, h => by
    have h1 := h a (List.mem_cons_self ..)
    have h2 := sum_pos (l := l) fun x hx => h x (List.mem_cons_of_mem _ hx)
    simp only [List.length_cons, List.map_cons, List.sum_cons]
    omega
theorem mem_sum : ∀ {l : List (List SV × Nat)} {x : List SV × Nat}, x ∈ l → x.2 ≤ (l.map (·.2)).sum
  | a :: l, x, h => by
    simp only [List.map_cons, List.sum_cons]
    rcases List.mem_cons.1 h with rfl | h
    · omega
    · have := mem_sum h; omega

set_option maxHeartbeats 4000000 in
set_option maxRecDepth 10000 in
theorem nodes_runs (Γ : Glob) : ∀ (f : Nat) (cs : List SV) (s : Nat), IsNd Γ f cs s → s ≤ 1048576 → 0 < s ∧ ∀ h : Hp, Runs Tryz.prog Γ (.call 29 [.agg cs] h) fun r => ∃ l, Own r.hp h.next 36 22 r.v s l ∧ Kept h.next h r.hp := by
  intro f
  induction f with
  | zero => intro cs s h; exact h.elim
  | succ f ihf =>
    intro cs s hnd hs
    obtain ⟨kids, hlen, hone, hsum, hkids, hat⟩ := hnd
    have ih : ∀ x ∈ kids, 0 < x.2 ∧ ∀ h : Hp, Runs Tryz.prog Γ (.call 29 [.agg x.1] h) fun r => ∃ l, Own r.hp h.next 36 22 r.v x.2 l ∧ Kept h.next h r.hp := fun x hx => ihf x.1 x.2 (hkids x hx) (by have := mem_sum hx; omega)
    have hkn := sum_pos fun x hx => (ih x hx).1
    refine ⟨by omega, fun h => ?_⟩
    refine runs_call Tryz.func29 rfl ?_
    refine runs_seq (runs_region ?_)
    refine ops_effect (v := .ptr h.next 0) (hp' := ⟨h.objs.set h.next (.cells cs 36), h.next + 1⟩) rfl rfl rfl rfl (Nat.le_succ _) rfl ?_
    refine ops_quiet rfl rfl rfl ?_
    refine ops_nil ?_
    refine runs_seq (runs_region ?_)
    refine ops_quiet (v := .agg cs) (fs := [.cells h.next 0 cs]) rfl (by
      have hg : (h.objs.set h.next (.cells cs 36)).get h.next = some (.cells cs 36) := by rw [T.get_set, if_pos rfl]
      show loadQ Tryz.prog Γ _ 36 (.ptr h.next 0) = _
      simp only [loadQ, show tyAgg Tryz.prog 36 = some true from rfl, show tySize Tryz.prog 36 = some 22 from rfl, readCells, knownCells, hg, Option.bind_some, cut_all hlen]) rfl ?_
    refine ops_effect (v := .slice (h.next + 1) 0 1 1) (hp' := ⟨(h.objs.set h.next (.cells cs 36)).set (h.next + 1) (.cells cs 36), h.next + 2⟩) rfl rfl rfl ?_ (Nat.le_succ _) rfl ?_
    · obtain ⟨i, z, hi, hz, hsz, hby, hzs⟩ := info36
      have t1 : tySize Tryz.prog 36 = some 22 := rfl
      have t2 : tyZero Tryz.prog 36 = some z := by simp only [tyZero, hi, Option.bind_some, hz]
      have hrep : (repeatL (SV.cells (.lit z)) 1).length = 22 := by simp only [repeatL, List.append_nil, hzs]
      have hf : fillQ (fun i => some (i * 22, 22)) (repeatL (SV.cells (.lit z)) 1) [(0, .agg cs)] = some cs := fill_one (by rw [hrep]) (by rw [hrep, hlen]) hone
      show val (buildSliceE Tryz.prog _ 34 1 [(0, .agg cs)]) = _
      have hc : (Nat.ble (1 * 22) 16777216 && Nat.beq (SV.cells (.lit z)).length 22) = true := by rw [beq_t hzs]; rfl
      have h0 : Nat.beq (1 * 22) 0 = false := rfl
      simp only [buildSliceE, show tyU Tryz.prog 34 = some (.slice 36) from rfl, t1, t2, hc, cond_true, h0, cond_false, hf, Hp.new, val, Option.map_some]
    refine ops_quiet rfl rfl rfl ?_
    refine ops_nil ?_
    refine runs_seq (runs_seq (runs_region ?_))
    refine ops_quiet rfl rfl rfl ?_
    refine ops_nil ?_
    refine runs_block ?_
    refine (nodes_loop Γ cs kids s h.next hs (by omega) hat ih kids.length 0 (by omega) _ ⟨_, h.next + 2⟩ (.slice (h.next + 1) 0 1 1) 1 cs rfl rfl rfl ?_ ?_ ?_ ?_).mono ?_
    · show ((h.objs.set h.next (.cells cs 36)).set (h.next + 1) (.cells cs 36)).get h.next = _
      rw [T.get_set, if_neg (by omega), T.get_set, if_pos rfl]
    · show h.next < h.next + 2
      omega
    · refine ⟨by rw [hlen], hone, h.next + 1, Nat.le_refl _, Nat.lt_succ_self _, .inr ⟨rfl, ?_⟩⟩
      show ((h.objs.set h.next (.cells cs 36)).set (h.next + 1) (.cells cs 36)).get (h.next + 1) = _
      rw [T.get_set, if_pos rfl]
    · rw [List.drop_zero, hsum]
    · rintro ⟨ex, fr, hp, v⟩ ⟨he, tm', l', hfr, hown, hkept⟩
      have he : ex = .exit 0 := he
      have hfr : fr = ⟨tm', 23, []⟩ := hfr
      subst he hfr
      refine runs_seq (runs_region ?_)
      refine ops_quiet rfl rfl rfl ?_
      refine ops_quiet rfl rfl rfl ?_
      refine ops_nil ?_
      refine runs_ret ?_
      refine ⟨_, rfl, l', ?_, ?_⟩
      · obtain ⟨a1, a2, b, b1, b2, b3⟩ := hown
        exact ⟨a1, a2, b, by omega, b2, b3⟩
      · refine Kept.trans ⟨?_, fun k hk => ?_⟩ (hkept.less (Nat.le_succ _))
        · show h.next ≤ h.next + 2
          omega
        · show ((h.objs.set h.next (.cells cs 36)).set (h.next + 1) (.cells cs 36)).get k = _
          rw [T.get_set, if_neg (by omega), T.get_set, if_neg (by omega)]
end Go.Proofs.YthjkejnmjbljfaaGreatDoor.undoNil
