/-
  THE LIBRARY'S FUNCTIONS ON TEXTS, AS THIS PROGRAM CALLS THEM: what they return, and that what there was stays; by the author of this claim, after the kit's contracts. | 'file.plain' IN THE CALCULUS OF RUNS: what was escaped is read as it was; by the author of this claim. | 'file.plain' IN THE CALCULUS OF RUNS (2): its loop; by the author of this claim.
-/
import Derived.Test.YtcpigoljjbhkkaaGreatDoorFtGK
import Derived.Test.YtcpigoljjbhkkaaGreatDoorFtGB
import Derived.Shelf.Small.Wraps
import Derived.Lib.AtoiErrMem
import Derived.Lib.AppendIntMem
namespace Go.Proofs.YtcpigoljjbhkkaaGreatDoor.ft
open Go Go.RowKit Go.Proofs.YtcpigoljjbhkkaaGreatDoor.Ev

abbrev tv (l : List UInt8) : Value := .string ⟨⟨l⟩⟩
/-- The longest text that the library looks through otherwise is a number. -/
def hasMax (w : World) : Prop := ∃ m, w.cell? ⟨0, 0, none⟩ = some (.int .i64 m)

theorem replX : Builder.Extra Tryz.prog replLay_ren := {
  sizeBuilder := by kernel_rfl
  liesBuilder := by kernel_rfl
  t5 := Tryz.underlying5
  a5 := Tryz.isAgg5
  z5 := Tryz.sizeOf5
  v5 := Tryz.zeroValue5
  infoByte := by kernel_rfl
  cellsByte := by kernel_rfl
  sizeByte := by kernel_rfl
  neB5 := by decide }
theorem joinX : Builder.Extra Tryz.prog joinLay_ren := {
  sizeBuilder := by kernel_rfl
  liesBuilder := by kernel_rfl
  t5 := Tryz.underlying5
  a5 := Tryz.isAgg5
  z5 := Tryz.sizeOf5
  v5 := Tryz.zeroValue5
  infoByte := by kernel_rfl
  cellsByte := by kernel_rfl
  sizeByte := by kernel_rfl
  neB5 := by decide }

theorem below_drawn (w : World) (n : Nat) : Below w.heap.size w (w.drewN n) := ⟨rfl, rfl, rfl, Nat.le_refl _, fun _ _ => rfl⟩
theorem ba_size (l : List UInt8) : (⟨⟨l⟩⟩ : ByteArray).size = l.length := rfl
theorem cut_calls {s sep : List UInt8} {w : World} (hm : hasMax w) (hs : s.length ≤ 1000000) :
    Calls Tryz.prog 16 #[tv s, tv sep] w fun e w' => e = .returned (.tuple #[tv (Lib.cut s sep).1, tv (Lib.cut s sep).2.1, .bool (Lib.cut s sep).2.2]) ∧ Below w.heap.size w w' := by
  obtain ⟨m, hm⟩ := hm
  refine (Any.strings_Cut cutLay ⟨⟨s⟩⟩ ⟨⟨sep⟩⟩ m w (by rw [ba_size]; omega) hm).mono ?_
  rintro e w' ⟨rfl, n, rfl⟩
  exact ⟨rfl, below_drawn w n⟩
theorem repl_calls {s new : List UInt8} {c : UInt8} {w : World} (hm : hasMax w) (hs : s.length ≤ 100000) (hn : new.length ≤ 100) (hne : new ≠ [c]) :
    Calls Tryz.prog 65 #[tv s, tv [c], tv new] w fun e w' => e = .returned (tv (rep c new s)) ∧ Below w.heap.size w w' := by
  obtain ⟨m, hm⟩ := hm
  have hc : Lib.countB ⟨⟨s⟩⟩ ⟨⟨[c]⟩⟩ ≤ s.length := count_le_len s.length s (Nat.le_refl _)
  have hmul : Lib.countB ⟨⟨s⟩⟩ ⟨⟨[c]⟩⟩ * new.length ≤ 100000 * 100 := Nat.mul_le_mul (by omega) hn
  refine (Any.strings_ReplaceAll replLay replX ⟨⟨s⟩⟩ ⟨⟨[c]⟩⟩ ⟨⟨new⟩⟩ m w (by rw [ba_size]; omega) hm (by rw [ba_size]; simp) (by rw [ba_size, ba_size]; omega)).mono ?_
  rintro e w' ⟨rfl, hb⟩
  refine ⟨?_, hb⟩
  show Ending.returned (tv (Lib.replaceAll s [c] new)) = _
  rw [replaceAll_eq hne]
theorem join_calls {bk o c : Nat} {xs : List (List UInt8)} {sep : List UInt8} {w : World} (hcells : ∀ (j : Nat) x, xs[j]? = some x → w.cell? ⟨bk, o + j, none⟩ = some (tv x)) (hbk : bk < w.heap.size) (hN : xs.length ≤ 100) (hcap : xs.length ≤ c) (hlen : (Lib.join xs sep).length ≤ 1000000) :
    Calls Tryz.prog 21 #[.slice (some ⟨bk, o, none⟩) xs.length c, tv sep] w fun e w' => e = .returned (tv (Lib.join xs sep)) ∧ Below w.heap.size w w' := by
  have hmap : (xs.map fun x => (⟨⟨x⟩⟩ : ByteArray)).map (·.data.toList) = xs := by
    rw [List.map_map]
    exact List.map_id _
  have := Any.strings_Join joinLay joinX bk o c (xs.map fun x => (⟨⟨x⟩⟩ : ByteArray)) ⟨⟨sep⟩⟩ w (fun j x hx => by
    rw [List.getElem?_map, Option.map_eq_some_iff] at hx
    obtain ⟨y, hy, rfl⟩ := hx
    exact hcells j y hy) hbk (by rw [List.length_map]; omega) (by rw [List.length_map]; omega) (by rw [hmap]; show (Lib.join xs sep).length ≤ _; omega)
  rw [hmap, List.length_map] at this
  exact this
theorem has_calls {s p : List UInt8} {w : World} : Calls Tryz.prog 142 #[tv s, tv p] w fun e w' => e = .returned (.bool (Lib.hasPrefix s p)) ∧ Below w.heap.size w w' :=
  (Any.strings_HasPrefix hasLay ⟨⟨s⟩⟩ ⟨⟨p⟩⟩ w).mono fun _ _ ⟨h1, h2⟩ => ⟨h1, h2 ▸ Below.refl _ _⟩
theorem trim_calls {s p : List UInt8} {w : World} : Calls Tryz.prog 64 #[tv s, tv p] w fun e w' => e = .returned (tv (Lib.trimPrefix s p)) ∧ Below w.heap.size w w' :=
  (Any.strings_TrimPrefix trimLay ⟨⟨s⟩⟩ ⟨⟨p⟩⟩ w).mono fun _ _ ⟨h1, h2⟩ => ⟨h1, h2 ▸ Below.refl _ _⟩
theorem cutp_calls {s p : List UInt8} {w : World} : Calls Tryz.prog 83 #[tv s, tv p] w fun e w' => e = .returned (.tuple #[tv (Lib.trimPrefix s p), .bool (Lib.hasPrefix s p)]) ∧ Below w.heap.size w w' :=
  (Any.strings_CutPrefix cutpLay ⟨⟨s⟩⟩ ⟨⟨p⟩⟩ w).mono fun _ _ ⟨h1, h2⟩ => ⟨h1, h2 ▸ Below.refl _ _⟩

/-- What a run comes to on all ways, if it is one literal, and what there was stays. -/
theorem calls_lit {Γ : Env} [AskOk Tryz.prog Γ] {mem : Oracle} (hmem : OracleOk Tryz.prog Γ mem) {m : Nat} {f : FuncId} {args : List SV} (θ : Ev.Ren) {w : World} {v : Value} (h : O.Runs Tryz.prog Γ.tab mem (.call f args ⟨.leaf, m⟩) fun o => ∀ θ, conc θ o.v = v)
    (hΓ : globMet Γ.tab w) (hi : Γ.inv (· < w.heap.size) w θ (· < m)) (hok : SV.okL (· < m) args) : Calls Tryz.prog f (concL θ args).toArray w fun e w' => e = .returned v ∧ Below w.heap.size w w' := by
  obtain ⟨n, outs, h1, h2⟩ := h
  refine (callsIn_wide.1 (((runO_sound noCount mixed hmem n).1.call f args ⟨.leaf, m⟩ outs (h1 n (Nat.le_refl _))).2 _ w θ _ w (rep_start θ m hΓ hi) hok)).mono ?_
  rintro e w' ⟨o, hm, θ', K', _, rfl, _, hrep⟩
  rw [h2 o hm]
  exact ⟨rfl, hrep.below⟩
def θ0 : Ev.Ren := ⟨fun _ => 0, fun _ => 0, fun _ => 0, fun _ => undef⟩
theorem itoa_dg {n : Nat} (h : n < 256) : Lib.itoa n = dg n := by
  unfold Lib.itoa
  rw [if_neg (by omega), Int.toNat_natCast]
  unfold dg
  by_cases h1 : n < 10
  · rw [if_pos h1, Lib.decDigits_one h1]
  · rw [if_neg h1]
    by_cases h2 : n < 100
    · rw [if_pos h2, Lib.decDigits_two h1 h2]
    · rw [if_neg h2, Lib.decDigits, dif_neg h1, Lib.decDigits_two (by omega) (by omega), Nat.div_div_eq_div_mul]
      rfl
theorem atoi_all : (List.range 256).all (fun n => decide (Lib.atoi (dg n) = some (n : Int))) = true := by decide +kernel
theorem atoi_dg {n : Nat} (h : n < 256) : Lib.atoi (dg n) = some (n : Int) := of_decide_eq_true (List.all_eq_true.1 atoi_all n (List.mem_range.2 h))
/-- The powers of ten that the library looks up. -/
def hasTab (w : World) : Prop := Lib.TabIs Tryz.prog w "internal/strconv.uint64pow10" .u64 Lib.pow10Tab
theorem itoa_calls {n : Nat} (h : n < 256) {w : World} (ht : hasTab w) : Calls Tryz.prog 59 #[.int .i64 n] w fun e w' => e = .returned (tv (dg n)) ∧ Below w.heap.size w w' := by
  refine (Any.strconv_Itoa itoaLay n (by omega) (by omega) w ht).mono ?_
  rintro e w' ⟨rfl, k, os, rfl⟩
  refine ⟨?_, Lib.below_grow _ w (Nat.le_refl _) k os⟩
  show Ending.returned (tv (Lib.itoa n)) = _
  rw [itoa_dg h]
theorem atoi_calls {n : Nat} (h : n < 256) {w : World} : Calls Tryz.prog 189 #[tv (dg n)] w fun e w' => e = .returned (.tuple #[.int .i64 n, .nilIface]) ∧ Below w.heap.size w w' := by
  refine (Any.strconv_Atoi atoiLay ⟨⟨dg n⟩⟩ n (by rw [ba_size]; have := (dg_ok h).2.2; omega) (atoi_dg h) w).mono ?_
  rintro e w' ⟨rfl, t, rfl⟩
  exact ⟨rfl, Lib.bytesWorld_below w _ t⟩
/-- What the library wants of the memory. -/
def WOk (w : World) : Prop := hasMax w ∧ hasTab w
theorem gMax : Tryz.prog.globalNamed "internal/strconv.uint64pow10" = some 2 := by kernel_rfl
theorem WOk.same {w w' : World} (h : WOk w) (h0 : w'.heap[0]? = w.heap[0]?) (h2 : w'.heap[2]? = w.heap[2]?) : WOk w' := by
  refine ⟨?_, ?_⟩
  · obtain ⟨m, hm⟩ := h.1
    exact ⟨m, (World.cell?_of_block (w := w) h0).trans hm⟩
  · have := h.2
    unfold hasTab Lib.TabIs World.var? at this ⊢
    rw [gMax] at this ⊢
    simp only [Option.bind_some] at this ⊢
    rw [h2]
    exact this
theorem digits_calls {s : List UInt8} {k : Nat} (hk : k ≤ s.length) (hd : ∀ i, i < k → digAt s i) (he : k < s.length → ¬ digAt s k) (hs : s.length ≤ 1000000) {w : World} : Calls Tryz.prog 247 #[tv s] w fun e w' => e = .returned (.int .i64 k) ∧ Below w.heap.size w w' :=
  calls_lit (Γ := .plain .leaf) (args := [.lit (tv s)]) (noOracle _) θ0 (m := 10) ((digitsOf_runs hk hd he hs).mono fun o ho θ => by rw [ho.1]; rfl) (fun g cs hg => by cases hg) trivial ⟨trivial, trivial⟩
end Go.Proofs.YtcpigoljjbhkkaaGreatDoor.ft
namespace Go.Proofs.YtcpigoljjbhkkaaGreatDoor.ft
open Go Go.RowKit Go.Proofs.YtcpigoljjbhkkaaGreatDoor.Ev

set_option maxRecDepth 100000
/-! ### words on texts that are known -/
def cutW (args : List SV) (hp : Hp) : R := match args with
  | [.lit (.string ⟨⟨s⟩⟩), .lit (.string ⟨⟨p⟩⟩)] => bif Nat.ble s.length 1000000 then some (told1 hp (.tuple [.lit (tv (Lib.cut s p).1), .lit (tv (Lib.cut s p).2.1), .lit (.bool (Lib.cut s p).2.2)])) else none
  | _ => none
def hasW (args : List SV) (hp : Hp) : R := match args with
  | [.lit (.string ⟨⟨s⟩⟩), .lit (.string ⟨⟨p⟩⟩)] => some (told1 hp (.lit (.bool (Lib.hasPrefix s p))))
  | _ => none
def unBy : List SV → Option (List UInt8)
  | [] => some []
  | .lit (.int .u8 (.ofNat k)) :: r => bif Nat.blt k 256 then (unBy r).map fun l => UInt8.ofNat k :: l else none
  | _ => none
theorem unBy_by : ∀ l : List UInt8, unBy (bySV l) = some l
  | [] => rfl
  | b :: l => by
    have hb : Nat.blt b.toNat 256 = true := nat_blt (UInt8.toNat_lt b)
    show (bif Nat.blt b.toNat 256 then (unBy (bySV l)).map fun l => UInt8.ofNat b.toNat :: l else none) = _
    rw [hb, cond_true, unBy_by l, UInt8.ofNat_toNat]
    rfl
theorem unBy_eq : ∀ {v : List SV} {l : List UInt8}, unBy v = some l → v = bySV l
  | [], l, h => by obtain rfl := Option.some.inj h; rfl
  | .lit (.int .u8 (.ofNat k)) :: r, l, h => by
    have h : (bif Nat.blt k 256 then (unBy r).map fun l => UInt8.ofNat k :: l else none) = some l := h
    cases hk : Nat.blt k 256 with
    | false => rw [hk] at h; cases h
    | true =>
      rw [hk, cond_true, Option.map_eq_some_iff] at h
      obtain ⟨l', h1, rfl⟩ := h
      have hlt : k < 256 := by simpa [Nat.blt_eq] using hk
      rw [unBy_eq h1]
      show _ = SV.lit (.int .u8 (UInt8.ofNat k).toNat) :: bySV l'
      rw [UInt8.toNat_ofNat_of_lt' hlt]
      rfl
def strR (args : List SV) (hp : Hp) : R :=
  match args with
  | [.ptr b 0] => match hp.objs.get b with
    | some (.cells [.ptr _b' 0, .row rb 0 n n' cv] e) => match hp.objs.get rb with
      | some (.row l e2 n2 cv2 1) => match unBy l with
        | some t => bif Nat.beq e 79 && (Nat.beq e2 5 && (Nat.beq n n' && (Nat.beq n n2 && (Nat.beq cv2 cv && (Nat.beq t.length n && (Nat.ble n 1000000 && Nat.blt 0 n)))))) then some [⟨.ret, ⟨.leaf, 0, []⟩, ⟨hp.objs.put rb none, hp.next⟩, .lit (tv t)⟩] else none
        | none => none
      | _ => none
    | _ => none
  | _ => none
def plMem : Oracle := fun f args hp =>
  bif Nat.beq f 16 then cutW args hp
  else bif Nat.beq f 142 then hasW args hp
  else bif Nat.beq f 31 then strR args hp
  else ccMem f args hp
instance : CcMem plMem := ⟨rfl, rfl, rfl⟩
/-- The memory lies as the library wants it. -/
def plInv (X : Nat → Prop) (w0 : World) (_ : Ev.Ren) (_ : Nat → Prop) : Prop := X 0 ∧ X 2 ∧ WOk w0
def plEnv : Env where
  tab := .leaf
  inv := plInv
  ext := fun h _ _ => h
  base := fun ⟨h1, h2, h3⟩ hx hw _ => ⟨hx _ h1, hx _ h2, h3.same (hw _ h1) (hw _ h2)⟩
instance : AskOk Tryz.prog plEnv := AskOk.quietly rfl
instance : Mute plEnv.tab := ⟨rfl⟩

section
variable {Γ : Env} {X : Nat → Prop} {w0 : World} {θ : Ev.Ren} {K : Nat → Prop} {hp : Hp} {w : World}
theorem plOk_w (hi : plInv X w0 θ K) (hr : Rep Γ X w0 θ K hp w) : WOk w := hi.2.2.same (hr.kept _ hi.1) (hr.kept _ hi.2.1)
theorem strROk {args : List SV} {outs : List Out} (h : strR args hp = some outs) (hr : Rep Γ X w0 θ K hp w) :
    CallsIn Fence.wide 0 Tryz.prog 31 (concL θ args).toArray w (CPost Γ X w0 θ K hp.next outs) := by
  unfold strR at h
  split at h
  · rename_i b
    split at h
    · rename_i b' rb n n' cv e hb
      split at h
      · rename_i l e2 n2 cv2 hrb
        split at h
        · rename_i t ht
          cases hc : (Nat.beq e 79 && (Nat.beq e2 5 && (Nat.beq n n' && (Nat.beq n n2 && (Nat.beq cv2 cv && (Nat.beq t.length n && (Nat.ble n 1000000 && Nat.blt 0 n))))))) with
          | false => rw [hc] at h; cases h
          | true =>
            rw [hc, cond_true] at h
            simp only [Bool.and_eq_true, Nat.ble_eq] at hc
            obtain ⟨hc1, hc2, hc3, hc4, hc5, hc6, hc7, hc8⟩ := hc
            obtain rfl := Nat.eq_of_beq_eq_true hc1
            obtain rfl := Nat.eq_of_beq_eq_true hc2
            obtain rfl := Nat.eq_of_beq_eq_true hc3
            obtain rfl := Nat.eq_of_beq_eq_true hc4
            obtain rfl := Nat.eq_of_beq_eq_true hc5
            obtain rfl := Nat.eq_of_beq_eq_true hc6
            have h0 : 0 < t.length := by simpa [Nat.blt_eq] using hc8
            obtain rfl := unBy_eq ht
            obtain rfl := Option.some.inj h
            obtain ⟨k1, k2, k3, ob, k4, fr, rfl, k6⟩ := hr.obj b _ hb
            obtain ⟨j1, jX, j3, ob2, j4, fr2, ex, rfl, j6, j7⟩ := hr.obj rb _ hrb
            have hz : t.length ≠ 0 := by omega
            refine callsIn_wide.2 ((str_calls (θ.blk b) (θ.blk rb) (t.length + θ.cap cv2) _ t (concL θ (bySV t) ++ ex) w fr fr2 (fun e => by rw [e] at h0; exact Nat.lt_irrefl _ h0) (by omega) hc7 k4 j4 (by rw [List.length_append, bySV_conc, List.length_map]; omega) (fun k x hx => ?_)).mono ?_)
            · rw [bySV_conc, List.getElem?_append_left (by rw [List.length_map]; exact (List.getElem?_eq_some_iff.1 hx).1), List.getElem?_map, hx]
              rfl
            · rintro q w' ⟨rfl, rfl⟩
              refine ⟨_, List.mem_singleton_self _, θ, K, Grow.refl _ _ _, rfl, trivial, Rep.forget hr hrb ?_ ?_ ?_ ?_ fun k hk => ?_⟩
              · simp only [World.freeze, hz, if_false]; rfl
              · simp only [World.freeze, hz, if_false]; rfl
              · simp only [World.freeze, hz, if_false]; rfl
              · simp only [World.freeze, hz, if_false, Array.size_modify]; rfl
              · simp only [World.freeze, hz, if_false, Array.getElem?_modify]
                rw [if_neg (fun e => hk e.symm)]
                rfl
        · cases h
      · cases h
    · cases h
  · cases h
theorem cutWOk {args : List SV} {outs : List Out} (h : cutW args hp = some outs) (hr : Rep Γ X w0 θ K hp w) (hw : hasMax w) :
    CallsIn Fence.wide 0 Tryz.prog 16 (concL θ args).toArray w (CPost Γ X w0 θ K hp.next outs) := by
  unfold cutW at h
  split at h
  · rename_i s p
    cases hc : Nat.ble s.length 1000000 with
    | false => rw [hc] at h; cases h
    | true =>
      rw [hc, cond_true] at h
      obtain rfl := Option.some.inj h
      exact told1_post hr ⟨trivial, trivial, trivial, trivial⟩ (cut_calls hw (Nat.le_of_ble_eq_true hc))
  · cases h
theorem hasWOk {args : List SV} {outs : List Out} (h : hasW args hp = some outs) (hr : Rep Γ X w0 θ K hp w) :
    CallsIn Fence.wide 0 Tryz.prog 142 (concL θ args).toArray w (CPost Γ X w0 θ K hp.next outs) := by
  unfold hasW at h
  split at h
  · obtain rfl := Option.some.inj h
    exact told1_post hr trivial has_calls
  · cases h
end
theorem plMemOk : OracleOk Tryz.prog plEnv plMem := by
  intro f args hp outs h
  unfold plMem at h
  cases h1 : Nat.beq f 16 with
  | true =>
    obtain rfl : f = 16 := eq_of_beq h1
    rw [h1, cond_true] at h
    exact ⟨⟨_, _, Tryz.func16, rfl⟩, fun X w0 θ K w hr _ => cutWOk h hr (plOk_w hr.inv hr).1⟩
  | false =>
    rw [h1, cond_false] at h
    cases h2 : Nat.beq f 142 with
    | true =>
      obtain rfl : f = 142 := eq_of_beq h2
      rw [h2, cond_true] at h
      exact ⟨⟨_, _, Tryz.func142, rfl⟩, fun X w0 θ K w hr _ => hasWOk h hr⟩
    | false =>
      rw [h2, cond_false] at h
      cases h3 : Nat.beq f 31 with
      | true =>
        obtain rfl : f = 31 := eq_of_beq h3
        rw [h3, cond_true] at h
        exact ⟨⟨_, _, Tryz.func31, rfl⟩, fun X w0 θ K w hr _ => strROk h hr⟩
      | false =>
        rw [h3, cond_false] at h
        exact ccMemOk plEnv f args hp outs h

/-! ### a builder that holds a text -/
def BSt (h : Hp) (b : Nat) (l : List UInt8) : Prop := b < h.next ∧ l ≠ [] ∧ ∃ rb cv, rb < h.next ∧ b ≠ rb ∧ h.objs.get b = some (.cells [.ptr b 0, .row rb 0 l.length l.length cv] 79) ∧ h.objs.get rb = some (.row (bySV l) 5 l.length cv 1)
theorem app_row0 {h : Hp} {rb cv n : Nat} {l : List SV} (hr : h.objs.get rb = some (.row l 5 n cv 1)) (hl : l.length = n) (hn : n ≤ 1000000) :
    appendE Tryz.prog .leaf h [77, 9] (.row rb 0 n n cv) (.lit (tv [])) = some (.row rb 0 n n cv, h) := by
  obtain ⟨i, hi, hz, hs, hb⟩ := infoU8
  have hu : tyU Tryz.prog 77 = some (.slice 5) := rfl
  have hx : (tyU Tryz.prog 9).map isIntD = some false := rfl
  obtain ⟨xd, hxd, hxi⟩ := Option.map_eq_some_iff.1 hx
  have hzl : (SV.cells (.lit (.int .u8 0))).length = 1 := rfl
  have hsrc : srcCells .leaf h 1 (.lit (tv [])) = some ([], 0) := rfl
  simp only [appendE, hu, hxd, hxi, cond_false, hi, hz, hs, hb, hsrc, hr, hzl, List.length_nil, List.all_nil, Nat.mul_one, hl, nat_ble (show 1 ≤ 1000 by omega), nat_ble (show 0 ≤ 2000000 by omega), nat_ble (show n ≤ 2000000 by omega), nat_ble (Nat.le_refl n), nat_blt (show 0 < 1 by omega), Nat.beq_refl, Bool.and_self, cond_true]
theorem ws_empty {mem : Oracle} [CcMem mem] {h : Hp} {b rb cv n : Nat} {l : List SV} (hb : h.objs.get b = some (.cells [.ptr b 0, .row rb 0 n n cv] 79)) (hr : h.objs.get rb = some (.row l 5 n cv 1)) (hl : l.length = n) (hn : n ≤ 1000000) :
    O.Runs Tryz.prog .leaf mem (.call 20 [.ptr b 0, .lit (tv [])] h) fun o => o.hp = h.upd b (.cells [.ptr b 0, .row rb 0 n n cv] 79) := by
  have happ := app_row0 hr hl hn
  refine O.runs_call Tryz.func20 rfl ?_ (by rw [CcMem.ws (mem := mem)])
  refine O.runs_seq (O.runs_region ?_)
  refine O.ops_q (v := .lit (.int .i64 0)) (fs := []) rfl rfl rfl rfl ?_
  refine O.ops_q (v := .lit .nilIface) (fs := []) rfl rfl rfl rfl ?_
  refine O.ops_nil ?_
  refine O.runs_seq (O.runs_region ?_)
  refine O.ops_q (v := .ptr b 0) (fs := []) rfl rfl rfl rfl ?_
  refine O.ops_c (f := 54) (args := [.ptr b 0]) rfl rfl rfl (clone_none Tryz.func54 rfl) rfl rfl ?_
  refine (cc_used hb).mono ?_
  rintro ⟨ex1, fr1, h1, v1⟩ ⟨hv1, hh1⟩
  have hh1 : h1 = h := hh1
  subst hh1
  refine O.ops_nil ?_
  refine O.runs_seq (O.runs_region ?_)
  refine O.ops_q (v := .ptr b 0) (fs := []) rfl rfl rfl rfl ?_
  refine O.ops_q (v := .ptr b 0) (fs := []) rfl rfl rfl rfl ?_
  refine O.ops_q (v := .ptr b 0) (fs := []) rfl rfl rfl rfl ?_
  refine O.ops_q (v := .ptr b 1) (fs := []) rfl rfl rfl rfl ?_
  refine O.ops_q (v := .row rb 0 n n cv) (fs := [.cells b 1 [.row rb 0 n n cv]]) rfl (by simp only [quiet, ev_set]; exact load_cellB rfl hb rfl) rfl rfl ?_
  refine O.ops_q (v := .lit (tv [])) (fs := []) rfl rfl rfl rfl ?_
  refine O.ops_e (v := .row rb 0 n n cv) (hp' := h1) rfl rfl rfl (congrArg val happ) (Nat.le_refl _) rfl rfl ?_
  refine O.ops_q (v := .ptr b 0) (fs := []) rfl rfl rfl rfl ?_
  refine O.ops_q (v := .ptr b 1) (fs := []) rfl rfl rfl rfl ?_
  refine O.ops_e0 (v := .lit undef) (hp' := h1.upd b (.cells [.ptr b 0, .row rb 0 n n cv] 79)) rfl rfl rfl (by
    show unit (storeE Tryz.prog h1 77 (.ptr b 1) (.row rb 0 n n cv)) = _
    rw [store1 (old := .row rb 0 n n cv) (l' := [.ptr b 0, .row rb 0 n n cv]) rfl hb (by simp) rfl rfl rfl]
    rfl) (Nat.le_refl _) rfl ?_
  refine O.ops_nil ?_
  refine O.runs_seq (O.runs_region ?_)
  refine O.ops_q (v := .lit (tv [])) (fs := []) rfl rfl rfl rfl ?_
  refine O.ops_q (v := .lit (.int .i64 0)) (fs := []) rfl rfl rfl rfl ?_
  refine O.ops_q (v := .lit (.int .i64 0)) (fs := []) rfl rfl rfl rfl ?_
  refine O.ops_q (v := .lit .nilIface) (fs := []) rfl rfl rfl rfl ?_
  refine O.ops_nil ?_
  exact O.runs_ret ⟨_, rfl, rfl⟩
section
variable {h : Hp} {b : Nat} {l s : List UInt8}
theorem ws_st (hB : BSt h b l) (hl : l.length ≤ 1000000) (hs : s.length ≤ 1000000) : O.Runs Tryz.prog .leaf plMem (.call 20 [.ptr b 0, .lit (tv s)] h) fun o => BSt o.hp b (l ++ s) := by
  obtain ⟨h1, h2, rb, cv, h3, h4, h5, h6⟩ := hB
  by_cases e : s = []
  · subst e
    refine (ws_empty h5 h6 (bySV_len l) hl).mono fun o ho => ?_
    rw [ho, List.append_nil]
    exact ⟨h1, h2, rb, cv, h3, h4, get_set_eq, (get_set_ne (fun e => h4 e.symm)).trans h6⟩
  · refine (ws_used h5 h6 h4 h1 (bySV_len l) hl e hs).mono fun o ho => ?_
    rw [ho.2, ← bySV_append]
    have hx : h.next < h.next + 1 := by omega
    refine ⟨Nat.lt_of_lt_of_le h1 (Nat.le_of_lt hx), by simp [h2], h.next, h.next, hx, by omega, ?_, ?_⟩
    · rw [List.length_append]; exact get_set_eq
    · rw [List.length_append]; exact (get_set_ne (by omega)).trans get_set_eq
theorem wb_st {c : UInt8} (hB : BSt h b l) (hl : l.length ≤ 1000000) : O.Runs Tryz.prog .leaf plMem (.call 22 [.ptr b 0, .lit (.int .u8 c.toNat)] h) fun o => BSt o.hp b (l ++ [c]) := by
  obtain ⟨h1, h2, rb, cv, h3, h4, h5, h6⟩ := hB
  refine (wb_used h5 h6 h4 h1 h3 (bySV_len l) hl).mono fun o ho => ?_
  rw [ho.2, ← bySV_append]
  have hx : h.next + 1 < h.next + 1 + 1 := by omega
  refine ⟨by show b < h.next + 1 + 1; omega, by simp, h.next + 1, h.next + 1, hx, by omega, ?_, ?_⟩
  · rw [List.length_append]; exact get_set_eq
  · rw [List.length_append]; exact (get_set_ne (by omega)).trans get_set_eq
theorem ws_st0 (hb : h.objs.get b = some (.cells [.lit (.pointer none), .lit (.slice none 0 0)] 79)) (hlt : b < h.next) (hs0 : s ≠ []) (hs : s.length ≤ 1000000) : O.Runs Tryz.prog .leaf plMem (.call 20 [.ptr b 0, .lit (tv s)] h) fun o => BSt o.hp b s := by
  refine (ws_fresh hb hlt hs0 hs).mono fun o ho => ?_
  rw [ho.2]
  have hx : h.next < h.next + 1 := by omega
  refine ⟨Nat.lt_of_lt_of_le hlt (Nat.le_of_lt hx), hs0, h.next, h.next, hx, by omega, get_set_eq, (get_set_ne (by omega)).trans get_set_eq⟩
theorem str_st (hB : BSt h b l) (hl : l.length ≤ 1000000) : O.Runs Tryz.prog .leaf plMem (.call 31 [.ptr b 0] h) fun o => o.v = .lit (tv l) := by
  obtain ⟨h1, h2, rb, cv, h3, h4, h5, h6⟩ := hB
  have h0 : 0 < l.length := List.length_pos_iff.2 h2
  refine O.runs_told (outs := [⟨.ret, ⟨.leaf, 0, []⟩, ⟨h.objs.put rb none, h.next⟩, .lit (tv l)⟩]) ?_ fun o ho => ?_
  · show strR [.ptr b 0] h = _
    simp only [strR, h5, h6, unBy_by, Nat.beq_refl, nat_ble hl, nat_blt h0, Bool.and_self, cond_true]
  · obtain rfl := List.mem_singleton.1 ho
    rfl
end
end Go.Proofs.YtcpigoljjbhkkaaGreatDoor.ft
namespace Go.Proofs.YtcpigoljjbhkkaaGreatDoor.ft
open Go Go.RowKit Go.Proofs.YtcpigoljjbhkkaaGreatDoor.Ev

noncomputable def pBody : Code := bodyO Tryz.f91
noncomputable def pLoop : Code := inB (sR (sR pBody))
def PlEnd (t : List UInt8) (o : Out) : Prop := o.exit = .ret ∧ ∃ tm, o.fr = ⟨tm, 30, []⟩ ∧ Fr.ev ⟨tm, 30, []⟩ (.tmp 2) = .lit (tv t) ∧ Fr.ev ⟨tm, 30, []⟩ (.tmp 3) = .lit (.bool true)
section
variable {h : Hp} {b : Nat} {l acc : List UInt8} {tm : T SV}
set_option maxHeartbeats 4000000 in
set_option maxRecDepth 20000 in
theorem pl_endA (h1 : 92 ∉ l) (_h2 : 10 ∉ l) (hl : l.length ≤ 100000) (ha : acc.length ≤ 100000) (e0 : Fr.ev ⟨tm, 30, []⟩ (.tmp 0) = .lit (tv l)) (e4 : Fr.ev ⟨tm, 30, []⟩ (.tmp 4) = .ptr b 0)
    (hw : O.Runs Tryz.prog .leaf plMem (.call 20 [.ptr b 0, .lit (tv l)] h) fun o => BSt o.hp b (acc ++ l)) : O.Runs Tryz.prog .leaf plMem (.code pLoop none ⟨tm, 30, []⟩ h) (PlEnd (acc ++ l)) := by
  have hcut : Lib.cut l [92] = (l, [], false) := cut_no h1
  have hle : (acc ++ l).length ≤ 1000000 := by rw [List.length_append]; omega
  have hm : plMem 16 [.lit (tv l), .lit (tv [92])] h = some (told1 h (.tuple [.lit (tv l), .lit (tv []), .lit (.bool false)])) := by
    show cutW [.lit (tv l), .lit (tv [92])] h = _
    simp only [cutW, nat_ble (show l.length ≤ 1000000 by omega), cond_true, hcut]
  refine O.runs_loop (O.runs_block (O.runs_seq (O.runs_region ?_)))
  refine O.ops_q (v := .lit (tv l)) (fs := []) rfl (by simp only [quiet, e0]) rfl rfl ?_
  refine O.ops_c (f := 16) (args := [.lit (tv l), .lit (tv [92])]) rfl rfl rfl (clone_none Tryz.func16 rfl) rfl rfl ?_
  refine O.runs_told hm fun o ho => ?_
  obtain rfl := List.mem_singleton.1 ho
  refine O.ops_q (v := .tuple [.lit (tv l), .lit (tv []), .lit (.bool false)]) (fs := []) rfl (by simp only [quiet, ev_set]; rfl) rfl rfl ?_
  refine O.ops_q (v := .lit (tv l)) (fs := []) rfl (by simp only [quiet, ev_set]; rfl) rfl rfl ?_
  refine O.ops_q (v := .lit (tv [])) (fs := []) rfl (by simp only [quiet, ev_set]; rfl) rfl rfl ?_
  refine O.ops_q (v := .lit (.bool false)) (fs := []) rfl (by simp only [quiet, ev_set]; rfl) rfl rfl ?_
  refine O.ops_q (v := .lit (tv l)) (fs := []) rfl (by simp only [quiet, ev_set]; rfl) rfl rfl ?_
  refine O.ops_q (v := .lit (tv [])) (fs := []) rfl (by simp only [quiet, ev_set]; rfl) rfl rfl ?_
  refine O.ops_q (v := .lit (.bool false)) (fs := []) rfl (by simp only [quiet, ev_set]; rfl) rfl rfl ?_
  refine O.ops_nil (thenN ?_)
  refine O.runs_seq (O.runs_region ?_)
  refine O.ops_q (v := .lit (tv l)) (fs := []) rfl (by simp only [quiet, ev_set]; rfl) rfl rfl ?_
  refine O.ops_c (f := 20) (args := [.ptr b 0, .lit (tv l)]) rfl rfl (by simp only [calleeOf, List.map_cons, List.map_nil, ev_set, e4]; rfl) (clone_none Tryz.func20 rfl) rfl rfl ?_
  refine hw.mono ?_
  rintro ⟨ex1, fr1, h1, v1⟩ hB
  have hB : BSt h1 b (acc ++ l) := hB
  refine O.ops_nil (thenN ?_)
  refine O.runs_seq (O.runs_block (O.runs_seq (O.runs_region ?_)))
  refine O.ops_q (v := .lit (.bool false)) (fs := []) rfl (by simp only [quiet, ev_set]; rfl) rfl rfl ?_
  refine O.ops_q (v := .lit (.bool true)) (fs := []) rfl (by simp only [quiet, ev_set]; rfl) rfl rfl ?_
  refine O.ops_q (v := .lit (.bool true)) (fs := []) rfl (by simp only [quiet, ev_set]; rfl) rfl rfl ?_
  refine O.ops_nil (thenN ?_)
  refine O.runs_cond true (by simp [ev_set]) (O.runs_seq (O.runs_region ?_))
  refine O.ops_c (f := 31) (args := [.ptr b 0]) rfl rfl (by simp only [calleeOf, List.map_cons, List.map_nil, ev_set, e4]; rfl) (clone_none Tryz.func31 rfl) rfl rfl ?_
  refine (str_st hB hle).mono ?_
  rintro ⟨ex2, fr2, h2, v2⟩ hv2
  have hv2 : v2 = .lit (tv (acc ++ l)) := hv2
  subst hv2
  refine O.ops_q (v := .lit (tv (acc ++ l))) (fs := []) rfl (by simp only [quiet, ev_set]; rfl) rfl rfl ?_
  refine O.ops_q (v := .lit (.bool true)) (fs := []) rfl (by simp only [quiet]; rfl) rfl rfl ?_
  refine O.ops_nil (thenN (O.runs_ret ?_))
  exact ⟨rfl, _, rfl, by simp [ev_set], by simp [ev_set]⟩
set_option maxHeartbeats 4000000 in
set_option maxRecDepth 20000 in
theorem pl_roundB {Φ : Out → Prop} {p r : List UInt8} {c : UInt8} (h1 : 92 ∉ p) (hp2 : 10 ∉ p) (hc : c = 92 ∨ c = 10) (hl : (p ++ c :: r).length ≤ 100000) (ha : acc.length ≤ 100000) (e0 : Fr.ev ⟨tm, 30, []⟩ (.tmp 0) = .lit (tv (esc (p ++ c :: r)))) (e4 : Fr.ev ⟨tm, 30, []⟩ (.tmp 4) = .ptr b 0)
    (hw : O.Runs Tryz.prog .leaf plMem (.call 20 [.ptr b 0, .lit (tv p)] h) fun o => BSt o.hp b (acc ++ p))
    (hn : ∀ (tm' : T SV) (h' : Hp), Fr.ev ⟨tm', 30, []⟩ (.tmp 0) = .lit (tv (esc r)) → Fr.ev ⟨tm', 30, []⟩ (.tmp 4) = .ptr b 0 → BSt h' b (acc ++ p ++ [c]) → O.Runs Tryz.prog .leaf plMem (.code pLoop none ⟨tm', 30, []⟩ h') Φ) :
    O.Runs Tryz.prog .leaf plMem (.code pLoop none ⟨tm, 30, []⟩ h) Φ := by
  obtain ⟨x, hx, hesc⟩ : ∃ x : UInt8, ((c = 92 ∧ x = 92) ∨ (c = 10 ∧ x = 110)) ∧ esc (p ++ c :: r) = p ++ 92 :: x :: esc r := by
    rcases hc with rfl | rfl
    · exact ⟨92, .inl ⟨rfl, rfl⟩, by rw [esc_append, esc_no h1 hp2, esc_bs]⟩
    · exact ⟨110, .inr ⟨rfl, rfl⟩, by rw [esc_append, esc_no h1 hp2, esc_nl]⟩
  have hlen := esc_len (p ++ c :: r)
  rw [hesc] at e0 hlen
  have hlr : (x :: esc r).length ≤ 500000 := by simp only [List.length_append, List.length_cons] at hlen hl ⊢; omega
  have hcut : Lib.cut (p ++ 92 :: x :: esc r) [92] = (p, x :: esc r, true) := cut_at _ h1
  have hle : (acc ++ p).length ≤ 1000000 := by rw [List.length_append] at hl ⊢; omega
  have hm : plMem 16 [.lit (tv (p ++ 92 :: x :: esc r)), .lit (tv [92])] h = some (told1 h (.tuple [.lit (tv p), .lit (tv (x :: esc r)), .lit (.bool true)])) := by
    show cutW [.lit (tv (p ++ 92 :: x :: esc r)), .lit (tv [92])] h = _
    simp only [cutW, nat_ble (show (p ++ 92 :: x :: esc r).length ≤ 1000000 by omega), cond_true, hcut]
  have hm1 : ∀ h : Hp, plMem 142 [.lit (tv (x :: esc r)), .lit (tv [92])] h = some (told1 h (.lit (.bool (decide (x = 92))))) := fun h => by
    show some (told1 h (.lit (.bool (Lib.hasPrefix (x :: esc r) [92])))) = _
    rcases hx with ⟨_, rfl⟩ | ⟨_, rfl⟩ <;> rfl
  have hm2 : ∀ h : Hp, plMem 142 [.lit (tv (x :: esc r)), .lit (tv [110])] h = some (told1 h (.lit (.bool (decide (x = 110))))) := fun h => by
    show some (told1 h (.lit (.bool (Lib.hasPrefix (x :: esc r) [110])))) = _
    rcases hx with ⟨_, rfl⟩ | ⟨_, rfl⟩ <;> rfl
  have hfrom : tFrom (x :: esc r) 1 = esc r := rfl
  refine O.runs_loop (O.runs_block (O.runs_seq (O.runs_region ?_)))
  refine O.ops_q (v := .lit (tv (p ++ 92 :: x :: esc r))) (fs := []) rfl (by simp only [quiet, e0]) rfl rfl ?_
  refine O.ops_c (f := 16) (args := [.lit (tv (p ++ 92 :: x :: esc r)), .lit (tv [92])]) rfl rfl rfl (clone_none Tryz.func16 rfl) rfl rfl ?_
  refine O.runs_told hm fun o ho => ?_
  obtain rfl := List.mem_singleton.1 ho
  refine O.ops_q (v := .tuple [.lit (tv p), .lit (tv (x :: esc r)), .lit (.bool true)]) (fs := []) rfl (by simp only [quiet, ev_set]; rfl) rfl rfl ?_
  refine O.ops_q (v := .lit (tv p)) (fs := []) rfl (by simp only [quiet, ev_set]; rfl) rfl rfl ?_
  refine O.ops_q (v := .lit (tv (x :: esc r))) (fs := []) rfl (by simp only [quiet, ev_set]; rfl) rfl rfl ?_
  refine O.ops_q (v := .lit (.bool true)) (fs := []) rfl (by simp only [quiet, ev_set]; rfl) rfl rfl ?_
  refine O.ops_q (v := .lit (tv p)) (fs := []) rfl (by simp only [quiet, ev_set]; rfl) rfl rfl ?_
  refine O.ops_q (v := .lit (tv (x :: esc r))) (fs := []) rfl (by simp only [quiet, ev_set]; rfl) rfl rfl ?_
  refine O.ops_q (v := .lit (.bool true)) (fs := []) rfl (by simp only [quiet, ev_set]; rfl) rfl rfl ?_
  refine O.ops_nil (thenN ?_)
  refine O.runs_seq (O.runs_region ?_)
  refine O.ops_q (v := .lit (tv p)) (fs := []) rfl (by simp only [quiet, ev_set]; rfl) rfl rfl ?_
  refine O.ops_c (f := 20) (args := [.ptr b 0, .lit (tv p)]) rfl rfl (by simp only [calleeOf, List.map_cons, List.map_nil, ev_set, e4]; rfl) (clone_none Tryz.func20 rfl) rfl rfl ?_
  refine hw.mono ?_
  rintro ⟨ex1, fr1, h1, v1⟩ hB
  have hB : BSt h1 b (acc ++ p) := hB
  refine O.ops_nil (thenN ?_)
  refine O.runs_seq (O.runs_block (O.runs_seq (O.runs_region ?_)))
  refine O.ops_q (v := .lit (.bool true)) (fs := []) rfl (by simp only [quiet, ev_set]; rfl) rfl rfl ?_
  refine O.ops_q (v := .lit (.bool false)) (fs := []) rfl (by simp only [quiet, ev_set]; rfl) rfl rfl ?_
  refine O.ops_q (v := .lit (.bool false)) (fs := []) rfl (by simp only [quiet, ev_set]; rfl) rfl rfl ?_
  refine O.ops_nil (thenN ?_)
  refine O.runs_cond false (by simp [ev_set]) (O.runs_seq (O.runs_region ?_))
  refine O.ops_q (v := .lit (tv (x :: esc r))) (fs := []) rfl (by simp only [quiet, ev_set]; rfl) rfl rfl ?_
  refine O.ops_c (f := 142) (args := [.lit (tv (x :: esc r)), .lit (tv [92])]) rfl rfl rfl (clone_none Tryz.func142 rfl) rfl rfl ?_
  refine O.runs_told (hm1 h1) fun o ho => ?_
  obtain rfl := List.mem_singleton.1 ho
  refine O.ops_q (v := .lit (.bool (decide (x = 92)))) (fs := []) rfl (by simp only [quiet, ev_set]; rfl) rfl rfl ?_
  refine O.ops_nil (thenN ?_)
  rcases hx with ⟨rfl, rfl⟩ | ⟨rfl, rfl⟩
  · refine O.runs_cond true (by simp [ev_set]) (O.runs_region ?_)
    refine O.ops_c (f := 22) (args := [.ptr b 0, .lit (.int .u8 (92 : UInt8).toNat)]) rfl rfl (by simp only [calleeOf, List.map_cons, List.map_nil, ev_set, e4]; rfl) (clone_none Tryz.func22 rfl) rfl rfl ?_
    refine (wb_st hB hle).mono ?_
    rintro ⟨ex2, fr2, h2, v2⟩ hB2
    have hB2 : BSt h2 b (acc ++ p ++ [92]) := hB2
    refine O.ops_nil (thenN ?_)
    refine O.runs_region ?_
    refine O.ops_q (v := .lit (tv (92 :: esc r))) (fs := []) rfl (by simp only [quiet, ev_set]; rfl) rfl rfl ?_
    refine O.ops_q (v := .lit (tv (esc r))) (fs := []) rfl (by simp only [quiet, ev_set]; exact congrArg one ((txt_from (l := 92 :: esc r) (i := 1) (by omega) (by simp only [List.length_cons]; omega)).trans (by rw [hfrom]))) rfl rfl ?_
    refine O.ops_q (v := .lit (tv (esc r))) (fs := []) rfl (by simp only [quiet, ev_set]; rfl) rfl rfl ?_
    refine O.ops_nil (thenN ?_)
    exact hn _ _ (by simp [ev_set]) (by simp [ev_set, e4]) hB2
  · refine O.runs_cond false (by simp [ev_set]) (O.runs_seq (O.runs_region ?_))
    refine O.ops_q (v := .lit (tv (110 :: esc r))) (fs := []) rfl (by simp only [quiet, ev_set]; rfl) rfl rfl ?_
    refine O.ops_c (f := 142) (args := [.lit (tv (110 :: esc r)), .lit (tv [110])]) rfl rfl rfl (clone_none Tryz.func142 rfl) rfl rfl ?_
    refine O.runs_told (hm2 h1) fun o ho => ?_
    obtain rfl := List.mem_singleton.1 ho
    refine O.ops_q (v := .lit (.bool true)) (fs := []) rfl (by simp only [quiet, ev_set]; rfl) rfl rfl ?_
    refine O.ops_nil (thenN ?_)
    refine O.runs_cond true (by simp [ev_set]) (O.runs_region ?_)
    refine O.ops_c (f := 22) (args := [.ptr b 0, .lit (.int .u8 (10 : UInt8).toNat)]) rfl rfl (by simp only [calleeOf, List.map_cons, List.map_nil, ev_set, e4]; rfl) (clone_none Tryz.func22 rfl) rfl rfl ?_
    refine (wb_st hB hle).mono ?_
    rintro ⟨ex2, fr2, h2, v2⟩ hB2
    have hB2 : BSt h2 b (acc ++ p ++ [10]) := hB2
    refine O.ops_nil (thenN ?_)
    refine O.runs_region ?_
    refine O.ops_q (v := .lit (tv (110 :: esc r))) (fs := []) rfl (by simp only [quiet, ev_set]; rfl) rfl rfl ?_
    refine O.ops_q (v := .lit (tv (esc r))) (fs := []) rfl (by simp only [quiet, ev_set]; exact congrArg one ((txt_from (l := 110 :: esc r) (i := 1) (by omega) (by simp only [List.length_cons]; omega)).trans (by rw [hfrom]))) rfl rfl ?_
    refine O.ops_q (v := .lit (tv (esc r))) (fs := []) rfl (by simp only [quiet, ev_set]; rfl) rfl rfl ?_
    refine O.ops_nil (thenN ?_)
    exact hn _ _ (by simp [ev_set]) (by simp [ev_set, e4]) hB2
end
/-- The loop where something is written. -/
theorem pLoop_runs {b : Nat} : ∀ (n : Nat) (l acc : List UInt8) (tm : T SV) (h : Hp), l.length ≤ n → acc.length + l.length ≤ 100000 → Fr.ev ⟨tm, 30, []⟩ (.tmp 0) = .lit (tv (esc l)) → Fr.ev ⟨tm, 30, []⟩ (.tmp 4) = .ptr b 0 → BSt h b acc →
    O.Runs Tryz.prog .leaf plMem (.code pLoop none ⟨tm, 30, []⟩ h) (PlEnd (acc ++ l)) := by
  intro n
  induction n with
  | zero =>
    intro l acc tm h hn hs e0 e4 hB
    obtain rfl : l = [] := List.length_eq_zero_iff.1 (by omega)
    exact pl_endA List.not_mem_nil List.not_mem_nil (by omega) (by omega) e0 e4 (ws_st hB (by omega) (by simp))
  | succ n ih =>
    intro l acc tm h hn hs e0 e4 hB
    rcases esc_cases l with ⟨h1, h2⟩ | ⟨p, c, r, rfl, h1, h2, hc⟩
    · rw [esc_no h1 h2] at e0
      exact pl_endA h1 h2 (by omega) (by omega) e0 e4 (ws_st hB (by omega) (by omega))
    · have hlen : (p ++ c :: r).length = p.length + r.length + 1 := by simp [List.length_append]; omega
      refine pl_roundB h1 h2 hc (by omega) (by omega) e0 e4 (ws_st hB (by omega) (by omega)) fun tm' h' e0' e4' hB' => ?_
      have := ih r (acc ++ p ++ [c]) tm' h' (by omega) (by simp only [List.length_append, List.length_singleton]; omega) e0' e4' hB'
      rwa [show acc ++ p ++ [c] ++ r = acc ++ (p ++ c :: r) by simp] at this
set_option maxRecDepth 20000 in
/-- **What was escaped is read as it was**, if it begins with a byte that needs no escape. -/
theorem plain_runs {a : UInt8} {l : List UInt8} (ha : a ≠ 92) (ha2 : a ≠ 10) (hl : (a :: l).length ≤ 100000) {h : Hp} : O.Runs Tryz.prog .leaf plMem (.call 91 [.lit (tv (esc (a :: l)))] h) fun o => o.v = .tuple [.lit (tv (a :: l)), .lit (.bool true)] := by
  have hb : (h.objs.set h.next (.cells [.lit (.pointer none), .lit (.slice none 0 0)] 79)).get h.next = some (.cells [.lit (.pointer none), .lit (.slice none 0 0)] 79) := get_set_eq
  refine O.runs_call Tryz.func91 rfl ?_ rfl
  refine O.runs_seq (O.runs_region ?_)
  refine O.ops_q (v := .lit (tv [])) (fs := []) rfl rfl rfl rfl ?_
  refine O.ops_q (v := .lit (.bool false)) (fs := []) rfl rfl rfl rfl ?_
  refine O.ops_nil (thenN ?_)
  refine O.runs_seq (O.runs_region ?_)
  refine O.ops_e (v := .ptr h.next 0) (hp' := ⟨h.objs.set h.next (.cells [.lit (.pointer none), .lit (.slice none 0 0)] 79), h.next + 1⟩) rfl rfl rfl rfl (Nat.le_succ _) rfl rfl ?_
  refine O.ops_nil (thenN ?_)
  refine O.runs_block ?_
  have fin : ∀ o : Out, PlEnd (a :: l) o → (fun o => ∃ r, leave Tryz.prog .leaf Tryz.f91 o = some [r] ∧ r.v = .tuple [.lit (tv (a :: l)), .lit (.bool true)]) (atEnd 0 o) := by
    rintro ⟨ex, fr, h1, v⟩ ⟨hx, t, hfr, h2, h3⟩
    have hx : ex = .ret := hx
    have hfr : fr = ⟨t, 30, []⟩ := hfr
    subst hx hfr
    have e : leave Tryz.prog .leaf Tryz.f91 ⟨.ret, ⟨t, 30, []⟩, h1, v⟩ = some [⟨.ret, ⟨t, 30, []⟩, h1, .tuple [Fr.ev ⟨t, 30, []⟩ (.tmp 2), Fr.ev ⟨t, 30, []⟩ (.tmp 3)]⟩] := rfl
    exact ⟨_, e, by rw [h2, h3]⟩
  refine O.Runs.mono (Φ := PlEnd (a :: l)) ?_ fin
  rcases esc_cases (a :: l) with ⟨h1, h2⟩ | ⟨p, c, r, hp, h1, h2, hc⟩
  · rw [esc_no h1 h2]
    exact pl_endA (acc := []) h1 h2 hl (by simp) rfl rfl (ws_st0 hb (Nat.lt_succ_self _) (by simp) (by omega))
  · obtain ⟨p', rfl⟩ : ∃ p', p = a :: p' := by
      cases p with
      | nil =>
        injection hp with e1 e2
        rcases hc with rfl | rfl
        · exact absurd e1 ha
        · exact absurd e1 ha2
      | cons x p => injection hp with e1 e2; exact ⟨p, by rw [e1]⟩
    rw [hp] at hl ⊢
    have hlen : (a :: p' ++ c :: r).length = (a :: p').length + r.length + 1 := by simp only [List.length_append, List.length_cons]; omega
    refine pl_roundB (acc := []) h1 h2 hc hl (by simp) rfl rfl (ws_st0 hb (Nat.lt_succ_self _) (by simp) (by omega)) fun tm' h' e0' e4' hB' => ?_
    have := pLoop_runs r.length r ([] ++ a :: p' ++ [c]) tm' h' (Nat.le_refl _) (by simp only [List.length_append, List.length_singleton, List.length_nil]; omega) e0' e4' hB'
    rwa [show [] ++ a :: p' ++ [c] ++ r = a :: p' ++ c :: r by simp] at this
theorem plain_calls {a : UInt8} {l : List UInt8} (ha : a ≠ 92) (ha2 : a ≠ 10) (hl : (a :: l).length ≤ 100000) {w : World} (hw : WOk w) (h0 : 10 ≤ w.heap.size) : Calls Tryz.prog 91 #[tv (esc (a :: l))] w fun e w' => e = .returned (.tuple #[tv (a :: l), .bool true]) ∧ Below w.heap.size w w' :=
  calls_lit (Γ := plEnv) (args := [.lit (tv (esc (a :: l)))]) plMemOk θ0 (m := 10) ((plain_runs ha ha2 hl).mono fun o ho θ => by rw [ho]; rfl) (fun g cs hg => by cases hg) ⟨by show 0 < _; omega, by show 2 < _; omega, hw⟩ ⟨trivial, trivial⟩
end Go.Proofs.YtcpigoljjbhkkaaGreatDoor.ft
