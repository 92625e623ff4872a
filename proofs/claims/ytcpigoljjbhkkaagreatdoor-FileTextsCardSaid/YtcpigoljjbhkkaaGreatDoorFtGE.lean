/-
  THE ORACLE IS SOUND: builders, joins, calls on named texts, as tables that were checked; the promise on the names; by the author of this claim. | THE LAW 'counterpanelaw33.FileTexts', PIECE BY PIECE: what stands ahead of its own loop is run by the evaluator; the loop, which counts a text's line ends, by hand over any frame; the last region by the evaluator, whatever the loop left in its slots; by the author of this claim.
-/
import Derived.Test.YtcpigoljjbhkkaaGreatDoorFtGD
import Derived.Test.YtcpigoljjbhkkaaGreatDoorEvGM
namespace Go.Proofs.YtcpigoljjbhkkaaGreatDoor.ft
open Go Go.RowKit Go.Proofs.YtcpigoljjbhkkaaGreatDoor.Ev

/-- The texts of the faults. -/
def faults : List (List UInt8) := [[], [35, 68, 73, 86, 47, 48, 33], [35, 86, 65, 76, 85, 69, 33], [35, 82, 69, 70, 33], [35, 78, 65, 77, 69, 63], [35, 78, 85, 77, 33], [35, 78, 47, 65], [35, 83, 80, 73, 76, 76, 33], [35, 67, 73, 82, 67, 33], [35, 67, 65, 76, 67, 33]]
def byteOf : SV → Option UInt8
  | .lit (.int .u8 (.ofNat c)) => bif Nat.blt c 256 then some (UInt8.ofNat c) else none
  | _ => none
theorem byteOf_eq {x : SV} {c : UInt8} (h : byteOf x = some c) : x = .lit (.int .u8 c.toNat) := by
  unfold byteOf at h
  split at h
  · rename_i n
    cases hn : Nat.blt n 256 with
    | false => rw [hn] at h; cases h
    | true =>
      rw [hn, cond_true] at h
      obtain rfl := Option.some.inj h
      have hlt : n < 256 := by simpa [Nat.blt_eq] using hn
      rw [UInt8.toNat_ofNat_of_lt' hlt]
      rfl
  · cases h
def oldOf (K : Tk) : Option Nat → Option (List Tok)
  | none => some []
  | some j => K.tx[j]?
def chkB (K : Tk) (r : BRow) : Bool := match oldOf K r.old, K.tx[r.new]? with
  | some o, some n => small K 400 o && (match byteOf r.x with
    | some c => eqL n (o ++ [.b c]) && SV.same r.ret (.lit .nilIface)
    | none => (match toksOf K r.x, r.ret with
      | some a, .tuple [q, .lit .nilIface] => small K 400 a && (a.any isB && (eqL n (o ++ a) && (Nat.beq (kindX r.x) 0 && (match numOf K q with
        | some p => eqL p a
        | none => false))))
      | _, _ => false))
  | _, _ => false
def bigOf (K : Tk) (j : Nat) : Bool := match K.tx[j]? with
  | some a => small K 400 a && a.any isB
  | none => false
def toksL (K : Tk) : List SV → Option (List (List Tok))
  | [] => some []
  | x :: l => match toksOf K x, toksL K l with
    | some a, some b => some (a :: b)
    | _, _ => none
def joinT : List (List Tok) → List Tok
  | [] => []
  | [a] => a
  | a :: b :: r => a ++ .b 32 :: joinT (b :: r)
def chkJ (K : Tk) (r : List SV × SV) : Bool := match toksL K r.1, toksOf K r.2 with
  | some l, some z => eqL z (joinT l) && small K 400 z
  | _, _ => false

section
variable {K : Tk} {s t : List UInt8} {θ : Ev.Ren} {Kn : Nat → Prop}
theorem any_ne : ∀ {a : List Tok}, a.any isB = true → den s t a ≠ []
  | x :: l, h, e => by
    rw [den_cons] at e
    obtain ⟨e1, e2⟩ := List.append_eq_nil_iff.1 e
    rw [List.any_cons, Bool.or_eq_true] at h
    rcases h with h | h
    · cases x with
      | b c => cases e1
      | a i => cases h
    · exact any_ne h e2
  | [], h, _ => by cases h
theorem bigOf_ok (f : Fit K s t) (h : NmOk K s t θ Kn) {j : Nat} {l : List UInt8} (hg : bigOf K j = true) (hj : θ.opq j = .string ⟨⟨l⟩⟩) : l ≠ [] ∧ l.length ≤ 1000000 := by
  unfold bigOf at hg
  split at hg
  · rename_i a ha
    rw [Bool.and_eq_true] at hg
    have := (h.tx j a ha).2
    rw [hj] at this
    obtain rfl : l = den s t a := by simpa using this
    have := den_len f hg.1
    exact ⟨any_ne hg.2, by omega⟩
  · cases hg
theorem oldOf_ok (h : NmOk K s t θ Kn) {o : Option Nat} {a : List Tok} (ho : oldOf K o = some a) : (∀ j, o = some j → θ.opq j = .string ⟨⟨den s t a⟩⟩) ∧ (o = none → den s t a = []) := by
  cases o with
  | none =>
    obtain rfl := Option.some.inj ho
    exact ⟨fun j hj => (by cases hj), fun _ => rfl⟩
  | some j =>
    refine ⟨fun j' hj => ?_, fun hj => (by cases hj)⟩
    obtain rfl := Option.some.inj hj
    exact (h.tx j a ho).2
/-- A row is so, for a text. -/
theorem chkB_text (f : Fit K s t) (h : NmOk K s t θ Kn) {r : BRow} (hc : chkB K r = true) (hk : kindX r.x = 0) : ∃ l u : List UInt8, (∀ j, r.old = some j → θ.opq j = .string ⟨⟨l⟩⟩) ∧ (r.old = none → l = []) ∧ l.length ≤ 1000000 ∧ u ≠ [] ∧ u.length ≤ 1000000 ∧ θ.opq r.new = .string ⟨⟨l ++ u⟩⟩ ∧ Kn r.new ∧ conc θ r.x = .string ⟨⟨u⟩⟩ ∧ r.ret.ok Kn ∧ conc θ r.ret = .tuple #[.int .i64 u.length, .nilIface] := by
  unfold chkB at hc
  split at hc
  · rename_i o n ho hn
    rw [Bool.and_eq_true] at hc
    obtain ⟨hc0, hc⟩ := hc
    have l1 := den_len f hc0
    obtain ⟨ho1, ho2⟩ := oldOf_ok h ho
    split at hc
    · rename_i c hx
      rw [byteOf_eq hx] at hk
      cases hk
    · split at hc
      · rename_i a q ha hret
        simp only [Bool.and_eq_true] at hc
        obtain ⟨h1, h2, h3, _, h4⟩ := hc
        split at h4
        · rename_i p hp
          have l2 := den_len f h1
          have e := eqL_eq h3
          have e2 := eqL_eq h4
          subst e2
          obtain ⟨q1, q2⟩ := num_ok h hp
          obtain ⟨x1, x2⟩ := toks_ok h ha
          obtain ⟨n1, n2⟩ := h.tx r.new n hn
          refine ⟨den s t o, den s t p, ho1, ho2, by omega, any_ne h2, by omega, by rw [n2, e, den_append], h.kn _ n1, x1, ?_, ?_⟩
          · rw [hret]; exact ⟨q2, trivial, trivial⟩
          · rw [hret]
            show Value.tuple #[conc θ q, .nilIface] = _
            rw [q1]
        · cases h4
      · cases hc
  · cases hc
/-- A row is so, for a byte. -/
theorem chkB_byte (f : Fit K s t) (h : NmOk K s t θ Kn) {r : BRow} (hc : chkB K r = true) (hk : kindX r.x = 1) : ∃ (l : List UInt8) (c : UInt8), (∀ j, r.old = some j → θ.opq j = .string ⟨⟨l⟩⟩) ∧ l.length ≤ 1000000 ∧ θ.opq r.new = .string ⟨⟨l ++ [c]⟩⟩ ∧ Kn r.new ∧ conc θ r.x = .int .u8 c.toNat ∧ r.ret = .lit .nilIface := by
  unfold chkB at hc
  split at hc
  · rename_i o n ho hn
    rw [Bool.and_eq_true] at hc
    obtain ⟨hc0, hc⟩ := hc
    have l1 := den_len f hc0
    obtain ⟨ho1, ho2⟩ := oldOf_ok h ho
    split at hc
    · rename_i c hx
      rw [Bool.and_eq_true] at hc
      obtain ⟨n1, n2⟩ := h.tx r.new n hn
      refine ⟨den s t o, c, ho1, by omega, by rw [n2, eqL_eq hc.1, den_append]; rfl, h.kn _ n1, by rw [byteOf_eq hx]; rfl, same_eq _ _ hc.2⟩
    · split at hc
      · rename_i a q ha hret
        simp only [Bool.and_eq_true] at hc
        have := Nat.eq_of_beq_eq_true hc.2.2.2.1
        rw [hk] at this
        cases this
      · cases hc
  · cases hc
theorem toksL_ok (h : NmOk K s t θ Kn) : ∀ {l : List SV} {az : List (List Tok)}, toksL K l = some az → concL θ l = az.map fun a => tv (den s t a)
  | [], az, hl => by obtain rfl := Option.some.inj hl; rfl
  | x :: l, az, hl => by
    unfold toksL at hl
    split at hl
    · rename_i a b ha hb
      obtain rfl := Option.some.inj hl
      rw [concL, toksL_ok h hb, (toks_ok h ha).1]
      rfl
    · cases hl
theorem joinT_ok : ∀ az : List (List Tok), den s t (joinT az) = Lib.join (az.map (den s t)) [32]
  | [] => rfl
  | [a] => by
    show den s t a = Lib.join [den s t a] [32]
    rw [Lib.join_one]
  | a :: b :: r => by
    show den s t (a ++ .b 32 :: joinT (b :: r)) = Lib.join (den s t a :: (b :: r).map (den s t)) [32]
    rw [den_append, den_cons, joinT_ok (b :: r)]
    rw [Lib.join_cons, List.map_cons, Lib.join_cons]
    simp only [Lib.joinTail, List.map_cons, List.flatten_cons]
    rfl
end

/-! ### the promise, and the oracle -/
def ftInv (K : Tk) (s t : List UInt8) (X : Nat → Prop) (w0 : World) (θ : Ev.Ren) (Kn : Nat → Prop) : Prop := plInv X w0 θ Kn ∧ 10 ≤ w0.heap.size ∧ NmOk K s t θ Kn
def ftEnv (Γ : Glob) (K : Tk) (s t : List UInt8) : Env where
  tab := Γ
  inv := ftInv K s t
  ext := fun ⟨h1, h2, h3⟩ he hk => ⟨h1, h2, ⟨fun i hi => hk i (h3.kn i hi), fun i l hl => ⟨(h3.tx i l hl).1, (he.opq i (h3.kn i (h3.tx i l hl).1)).trans (h3.tx i l hl).2⟩, fun i l hl => ⟨(h3.nt i l hl).1, (he.num i (h3.kn i (h3.nt i l hl).1)).trans (h3.nt i l hl).2⟩⟩⟩
  base := fun ⟨⟨h1, h2, h3⟩, h4, h5⟩ hx hw hs => ⟨⟨hx _ h1, hx _ h2, h3.same (hw _ h1) (hw _ h2)⟩, Nat.le_trans h4 hs, h5⟩
/-- The table's words, and those on one text's length and bytes. -/
def askL (rows : List Row) (j : Nat) (l : List UInt8) (k : Key) : Option SV := match findRow k rows with
  | some v => some v
  | none => match k with
    | .len ty (.opq i) => bif Nat.beq ty 9 && Nat.beq i j then some (.lit (.int .i64 l.length)) else none
    | .idx ty (.opq i) (.lit (.int .i64 (.ofNat n))) => bif Nat.beq ty 9 && Nat.beq i j then (l[n]?).map fun b => .lit (.int .u8 b.toNat) else none
    | _ => none
theorem ftAsk {Γ : Glob} {K : Tk} {s t : List UInt8} {rows : List Row} {j : Nat} {a : List Tok} (f : Fit K s t) (hj : K.tx[j]? = some a) (ha : Γ.ask = askBy (askL rows j (den s t a))) (hrows : rows.all (chkRow K) = true) : AskOk Tryz.prog (ftEnv Γ K s t) := by
  refine ⟨fun hi => askH_by ha fun k v hv => ?_⟩
  have hn := hi.2.2
  unfold askL at hv
  split at hv
  · rename_i v' hf
    obtain rfl := Option.some.inj hv
    exact chkRow_ok f hn (List.all_eq_true.1 hrows _ (findRow_mem hf))
  · split at hv
    · rename_i ty i _h
      cases hc : (Nat.beq ty 9 && Nat.beq i j) with
      | false => rw [hc] at hv; cases hv
      | true =>
        rw [hc, cond_true] at hv
        rw [Bool.and_eq_true] at hc
        obtain rfl := Nat.eq_of_beq_eq_true hc.1
        obtain rfl := Nat.eq_of_beq_eq_true hc.2
        obtain rfl := Option.some.inj hv
        refine ⟨trivial, ?_⟩
        show lenQ _ _ _ _ = _
        rw [(toks_ok hn (x := .opq i) hj).1]
        exact t_len
    · rename_i ty i n _h
      cases hc : (Nat.beq ty 9 && Nat.beq i j) with
      | false => rw [hc] at hv; cases hv
      | true =>
        rw [hc, cond_true] at hv
        rw [Bool.and_eq_true] at hc
        obtain rfl := Nat.eq_of_beq_eq_true hc.1
        obtain rfl := Nat.eq_of_beq_eq_true hc.2
        obtain ⟨b, hb, rfl⟩ := Option.map_eq_some_iff.1 hv
        refine ⟨trivial, ?_⟩
        show indexQ _ _ _ _ = _
        rw [(toks_ok hn (x := .opq i) hj).1]
        obtain ⟨hlt, _⟩ := List.getElem?_eq_some_iff.1 hb
        refine (txt_at (l := den s t a) (i := (n : Int)) (by omega) (by omega)).trans ?_
        unfold bAt
        rw [Int.toNat_natCast, hb]
        rfl
    · cases hv
structure TabsOk (K : Tk) (T : Tabs) : Prop where
  calls : T.calls.all (chkCall K) = true
  joins : T.joins.all (chkJ K) = true
  brows : T.brows.all (chkB K) = true
  big : T.big = bigOf K
section
variable {Γ : Glob} {K : Tk} {s t : List UInt8} {T : Tabs} {X : Nat → Prop} {w0 : World} {θ : Ev.Ren} {Kn : Nat → Prop} {hp : Hp} {w : World}
theorem kind_row {rows : List BRow} {old : Option Nat} {x : SV} {r : BRow} (h : findB old x rows = some r) (hall : rows.all (chkB K) = true) : chkB K r = true ∧ r.old = old ∧ r.x = x := by
  obtain ⟨h1, h2, h3⟩ := findB_mem h
  exact ⟨List.all_eq_true.1 hall r h1, h2, h3⟩
theorem wsOk (f : Fit K s t) (hall : T.brows.all (chkB K) = true) {args : List SV} {outs : List Out} (h : wW 0 T.brows args hp = some outs) (hr : Rep (ftEnv Γ K s t) X w0 θ Kn hp w) :
    CallsIn Fence.wide 0 Tryz.prog 20 (concL θ args).toArray w (CPost (ftEnv Γ K s t) X w0 θ Kn hp.next outs) := by
  have hn : NmOk K s t θ Kn := hr.inv.2.2
  unfold wW at h
  split at h
  · rename_i b x
    split at h
    · rename_i e hb
      cases hc : (Nat.beq e 79 && (Nat.beq 0 0 && (Nat.blt b hp.next && Nat.beq 0 (kindX x)))) with
      | false => rw [hc] at h; cases h
      | true =>
        rw [hc, cond_true] at h
        simp only [Bool.and_eq_true] at hc
        obtain ⟨c1, _, c3, c4⟩ := hc
        obtain rfl := Nat.eq_of_beq_eq_true c1
        split at h
        · rename_i r hf
          obtain rfl := Option.some.inj h
          obtain ⟨r1, r2, r3⟩ := kind_row hf hall
          obtain ⟨l, u, u1, u2, u3, u4, u5, u6, u7, u8, u9, u10⟩ := chkB_text f hn r1 (by rw [r3]; exact (Nat.eq_of_beq_eq_true c4).symm)
          obtain rfl := u2 r2
          have := wsFresh (r := r) hr hb (by simpa [Nat.blt_eq] using c3) u4 u5 u8 u6 u7 u9 u10
          rw [r3] at this
          exact this
        · cases h
    · rename_i b' j rb cv e hb
      cases hc : (Nat.beq e 79 && Nat.beq b' b) with
      | false => rw [hc] at h; cases h
      | true =>
        rw [hc, cond_true] at h
        rw [Bool.and_eq_true] at hc
        obtain rfl := Nat.eq_of_beq_eq_true hc.1
        obtain rfl := Nat.eq_of_beq_eq_true hc.2
        split at h
        · rename_i j2 e2 cv2 hrb
          cases hc2 : (Nat.beq j2 j && (Nat.beq e2 5 && (Nat.beq cv2 cv && (Nat.blt b' hp.next && (Nat.blt rb hp.next && Nat.beq 0 (kindX x)))))) with
          | false => rw [hc2] at h; cases h
          | true =>
            rw [hc2, cond_true] at h
            simp only [Bool.and_eq_true] at hc2
            obtain ⟨d1, d2, d3, d4, d5, d6⟩ := hc2
            obtain rfl := Nat.eq_of_beq_eq_true d1
            obtain rfl := Nat.eq_of_beq_eq_true d2
            obtain rfl := Nat.eq_of_beq_eq_true d3
            split at h
            · rename_i r hf
              obtain rfl := Option.some.inj h
              obtain ⟨r1, r2, r3⟩ := kind_row hf hall
              obtain ⟨l, u, u1, u2, u3, u4, u5, u6, u7, u8, u9, u10⟩ := chkB_text f hn r1 (by rw [r3]; exact (Nat.eq_of_beq_eq_true d6).symm)
              have := wsUsed (r := r) hr hb hrb (by simpa [Nat.blt_eq] using d4) (u1 _ r2) u3 u4 u5 u8 u6 u7 u9 u10
              rw [r3] at this
              exact this
            · cases h
        · cases h
    · cases h
  · cases h
theorem wbOk (f : Fit K s t) (hall : T.brows.all (chkB K) = true) {args : List SV} {outs : List Out} (h : wW 1 T.brows args hp = some outs) (hr : Rep (ftEnv Γ K s t) X w0 θ Kn hp w) :
    CallsIn Fence.wide 0 Tryz.prog 22 (concL θ args).toArray w (CPost (ftEnv Γ K s t) X w0 θ Kn hp.next outs) := by
  have hn : NmOk K s t θ Kn := hr.inv.2.2
  unfold wW at h
  split at h
  · rename_i b x
    split at h
    · rename_i e hb
      have hc : (Nat.beq e 79 && (Nat.beq 1 0 && (Nat.blt b hp.next && Nat.beq 0 (kindX x)))) = false := by
        rw [show Nat.beq 1 0 = false from rfl, Bool.false_and, Bool.and_false]
      rw [hc] at h
      cases h
    · rename_i b' j rb cv e hb
      cases hc : (Nat.beq e 79 && Nat.beq b' b) with
      | false => rw [hc] at h; cases h
      | true =>
        rw [hc, cond_true] at h
        rw [Bool.and_eq_true] at hc
        obtain rfl := Nat.eq_of_beq_eq_true hc.1
        obtain rfl := Nat.eq_of_beq_eq_true hc.2
        split at h
        · rename_i j2 e2 cv2 hrb
          cases hc2 : (Nat.beq j2 j && (Nat.beq e2 5 && (Nat.beq cv2 cv && (Nat.blt b' hp.next && (Nat.blt rb hp.next && Nat.beq 1 (kindX x)))))) with
          | false => rw [hc2] at h; cases h
          | true =>
            rw [hc2, cond_true] at h
            simp only [Bool.and_eq_true] at hc2
            obtain ⟨d1, d2, d3, d4, d5, d6⟩ := hc2
            obtain rfl := Nat.eq_of_beq_eq_true d1
            obtain rfl := Nat.eq_of_beq_eq_true d2
            obtain rfl := Nat.eq_of_beq_eq_true d3
            split at h
            · rename_i r hf
              obtain rfl := Option.some.inj h
              obtain ⟨r1, r2, r3⟩ := kind_row hf hall
              obtain ⟨l, c, u1, u3, u6, u7, u8, u9⟩ := chkB_byte f hn r1 (by rw [r3]; exact (Nat.eq_of_beq_eq_true d6).symm)
              have := wbUsed (r := r) hr hb hrb (by simpa [Nat.blt_eq] using d4) (by simpa [Nat.blt_eq] using d5) (u1 _ r2) u3 u8 u6 u7 u9
              rw [r3] at this
              exact this
            · cases h
        · cases h
    · cases h
  · cases h
theorem joinOk (f : Fit K s t) (hall : T.joins.all (chkJ K) = true) {args : List SV} {outs : List Out} (h : joinW T.joins args hp = some outs) (hr : Rep (ftEnv Γ K s t) X w0 θ Kn hp w) :
    CallsIn Fence.wide 0 Tryz.prog 21 (concL θ args).toArray w (CPost (ftEnv Γ K s t) X w0 θ Kn hp.next outs) := by
  have hn : NmOk K s t θ Kn := hr.inv.2.2
  unfold joinW at h
  split at h
  · rename_i b n c
    split at h
    · rename_i l e hb
      cases hc : (Nat.beq l.length n && (Nat.ble n c && Nat.ble n 10)) with
      | false => rw [hc] at h; cases h
      | true =>
        rw [hc, cond_true] at h
        simp only [Bool.and_eq_true, Nat.ble_eq] at hc
        obtain ⟨c1, c2, c3⟩ := hc
        obtain rfl := Nat.eq_of_beq_eq_true c1
        split at h
        · rename_i v hf
          obtain rfl := Option.some.inj h
          have hj := List.all_eq_true.1 hall _ (findJ_mem hf)
          unfold chkJ at hj
          split at hj
          · rename_i az z has hz
            rw [Bool.and_eq_true] at hj
            have has : toksL K l = some az := has
            have hz : toksOf K v = some z := hz
            have hcs := toksL_ok hn has
            have hlen : az.length = l.length := by rw [← concL_length θ l, hcs, List.length_map]
            obtain ⟨hv, kv⟩ := toks_ok hn hz
            obtain ⟨k1, k2, k3, ob, k4, fr, rfl, k6⟩ := hr.obj b _ hb
            have e := eqL_eq hj.1
            have l1 := den_len f hj.2
            rw [e, joinT_ok] at hv l1
            refine told1_post hr kv ?_
            rw [hv]
            have := join_calls (bk := θ.blk b) (o := 0) (c := c) (xs := az.map (den s t)) (sep := [32]) (w := w) (fun j x hx => ?_) (Array.getElem?_eq_some_iff.1 k4).1 (by rw [List.length_map]; omega) (by rw [List.length_map]; omega) (by omega)
            · rw [List.length_map, hlen] at this
              exact this
            · rw [List.getElem?_map, Option.map_eq_some_iff] at hx
              obtain ⟨a, ha, rfl⟩ := hx
              simp only [World.cell?, k4, Nat.zero_add, hcs]
              simp [ha]
          · cases hj
        · cases h
    · cases h
  · cases h

def isAw (f : FuncId) (args : List SV) : Bool := Nat.beq f 5 && (match args with
  | [] => true
  | _ => false)
/-- The run's oracle. -/
def ftOr (T : Tabs) (aw : Bool) (es : List Entry) : Oracle := fun f args hp => match ftMem T f args hp with
  | some r => some r
  | none => bif aw && isAw f args then some (told1 hp (.lit (.bool true))) else memo es f args hp
theorem ftMemOk (f : Fit K s t) (hT : TabsOk K T) : OracleOk Tryz.prog (ftEnv Γ K s t) (ftMem T) := by
  intro g args hp outs h
  unfold ftMem at h
  cases h1 : Nat.beq g 20 with
  | true =>
    obtain rfl : g = 20 := eq_of_beq h1
    rw [h1, cond_true] at h
    exact ⟨⟨_, _, Tryz.func20, rfl⟩, fun X w0 θ K w hr _ => wsOk f hT.brows h hr⟩
  | false =>
  rw [h1, cond_false] at h
  cases h2 : Nat.beq g 22 with
  | true =>
    obtain rfl : g = 22 := eq_of_beq h2
    rw [h2, cond_true] at h
    exact ⟨⟨_, _, Tryz.func22, rfl⟩, fun X w0 θ K w hr _ => wbOk f hT.brows h hr⟩
  | false =>
  rw [h2, cond_false] at h
  cases h3 : Nat.beq g 31 with
  | true =>
    obtain rfl : g = 31 := eq_of_beq h3
    rw [h3, cond_true, hT.big] at h
    exact ⟨⟨_, _, Tryz.func31, rfl⟩, fun X w0 θ K w hr _ => strBOk h hr fun j l hg hj => bigOf_ok f hr.inv.2.2 hg hj⟩
  | false =>
  rw [h3, cond_false] at h
  cases h4 : Nat.beq g 21 with
  | true =>
    obtain rfl : g = 21 := eq_of_beq h4
    rw [h4, cond_true] at h
    exact ⟨⟨_, _, Tryz.func21, rfl⟩, fun X w0 θ K w hr _ => joinOk f hT.joins h hr⟩
  | false =>
  rw [h4, cond_false] at h
  split at h
  · rename_i v hf
    obtain rfl := Option.some.inj h
    have hc := List.all_eq_true.1 hT.calls _ (findC_mem hf)
    have any : ∀ (w : World) (θ : Ev.Ren) (Kn : Nat → Prop), NmOk K s t θ Kn → WOk w → 10 ≤ w.heap.size → _ := fun w θ Kn hn hw h0 => chkCall_ok (w := w) f hn hc hw h0
    refine ⟨?_, fun X w0 θ Kn w hr _ => ?_⟩
    · have hb : g = 16 ∨ g = 64 ∨ g = 83 ∨ g = 142 ∨ g = 59 ∨ g = 189 ∨ g = 247 ∨ g = 65 ∨ g = 91 := by
        unfold chkCall at hc
        simp only [Bool.or_eq_true, Bool.and_eq_true] at hc
        rcases hc with ⟨e, _⟩ | ⟨e, _⟩ | ⟨e, _⟩ | ⟨e, _⟩ | ⟨e, _⟩ | ⟨e, _⟩ | ⟨e, _⟩ | ⟨e, _⟩ | ⟨e, _⟩
        · exact .inl (Nat.eq_of_beq_eq_true e)
        · exact .inr (.inl (Nat.eq_of_beq_eq_true e))
        · exact .inr (.inr (.inl (Nat.eq_of_beq_eq_true e)))
        · exact .inr (.inr (.inr (.inl (Nat.eq_of_beq_eq_true e))))
        · exact .inr (.inr (.inr (.inr (.inl (Nat.eq_of_beq_eq_true e)))))
        · exact .inr (.inr (.inr (.inr (.inr (.inl (Nat.eq_of_beq_eq_true e))))))
        · exact .inr (.inr (.inr (.inr (.inr (.inr (.inl (Nat.eq_of_beq_eq_true e)))))))
        · exact .inr (.inr (.inr (.inr (.inr (.inr (.inr (.inl (Nat.eq_of_beq_eq_true e))))))))
        · exact .inr (.inr (.inr (.inr (.inr (.inr (.inr (.inr (Nat.eq_of_beq_eq_true e))))))))
      rcases hb with rfl | rfl | rfl | rfl | rfl | rfl | rfl | rfl | rfl
      · exact ⟨_, _, Tryz.func16, rfl⟩
      · exact ⟨_, _, Tryz.func64, rfl⟩
      · exact ⟨_, _, Tryz.func83, rfl⟩
      · exact ⟨_, _, Tryz.func142, rfl⟩
      · exact ⟨_, _, Tryz.func59, rfl⟩
      · exact ⟨_, _, Tryz.func189, rfl⟩
      · exact ⟨_, _, Tryz.func247, rfl⟩
      · exact ⟨_, _, Tryz.func65, rfl⟩
      · exact ⟨_, _, Tryz.func91, rfl⟩
    · obtain ⟨h1, h2, h3⟩ := hr.inv
      obtain ⟨_, kv, hcalls⟩ := any w θ Kn h3 (plOk_w h1 hr) (Nat.le_trans h2 hr.size)
      exact told1_post hr kv hcalls
  · cases h
theorem ftOrOk (f : Fit K s t) (hT : TabsOk K T) {aw : Bool} (haw : aw = true → ∀ (X : Nat → Prop) (w0 : World) (θ : Ev.Ren) (Kn : Nat → Prop) (hp : Hp) (w : World), Rep (ftEnv Γ K s t) X w0 θ Kn hp w → Calls Tryz.prog 5 #[] w fun e w' => e = .returned (.bool true) ∧ Below w.heap.size w w') {es : List Entry} (hes : ∀ e ∈ es, EntryOk Tryz.prog (ftEnv Γ K s t) e) :
    OracleOk Tryz.prog (ftEnv Γ K s t) (ftOr T aw es) := by
  intro g args hp outs h
  unfold ftOr at h
  split at h
  · rename_i r hr
    obtain rfl := Option.some.inj h
    exact ftMemOk f hT g args hp _ hr
  · cases hc : (aw && isAw g args) with
    | false =>
      rw [hc, cond_false] at h
      exact memo_sound es hes g args hp outs h
    | true =>
      rw [hc, cond_true] at h
      obtain rfl := Option.some.inj h
      rw [Bool.and_eq_true] at hc
      obtain ⟨ha, hi⟩ := hc
      unfold isAw at hi
      rw [Bool.and_eq_true] at hi
      obtain rfl : g = 5 := eq_of_beq hi.1
      have hi2 := hi.2
      split at hi2
      · exact ⟨⟨_, _, Tryz.func5, rfl⟩, fun X w0 θ Kn w hr _ => told1_post hr trivial (haw ha X w0 θ Kn hp w hr)⟩
      · cases hi2
/-- An entry's word, by a run with an oracle. -/
theorem entry_okO {Γ : Env} [AskOk Tryz.prog Γ] {mem : Oracle} (hmem : OracleOk Tryz.prog Γ mem) (n : Nat) (e : Entry) (h : covers (runO Tryz.prog Γ mem n (.call e.f e.args e.hp)) e.outs = true) : EntryOk Tryz.prog Γ e := by
  unfold covers at h
  split at h
  · rename_i outs ho
    obtain ⟨hb, hc⟩ := (runO_sound noCount mixed hmem n).1.call e.f e.args e.hp outs ho
    refine ⟨hb, fun X w0 θ K w hr hok => CallsIn.mono (F := Fence.wide) (n := 0) (hc X w0 θ K w hr hok) fun en w' he => ?_⟩
    obtain ⟨o, hm, θ', K', hG, rfl, hvok, hr'⟩ := he
    have := List.all_eq_true.1 h o hm
    obtain ⟨x, hx, hxx⟩ := List.any_eq_true.1 this
    simp only [Bool.and_eq_true] at hxx
    have e1 := eqv_eq _ _ hxx.1
    have e2 := eq_of_beq hxx.2.1
    have e3 := holds_get hxx.2.2
    refine ⟨x, hx, θ', K', by rw [← e2]; exact hG, by rw [e1], by rw [← e1]; exact hvok, ?_⟩
    rw [← e2]
    refine hr'.fewer fun b ob hb => ?_
    rcases tOf_get _ _ _ _ hb with h1 | ⟨_, h2⟩
    · exact e3 _ h1
    · cases h2
  · cases h
end
end Go.Proofs.YtcpigoljjbhkkaaGreatDoor.ft
namespace Go.Proofs.YtcpigoljjbhkkaaGreatDoor.ft
open Go Go.RowKit Go.Proofs.YtcpigoljjbhkkaaGreatDoor.Ev

def eI (n : Int) : SV := .lit (.int .i64 n)
def eS (l : List UInt8) : SV := .lit (tv l)
def eT : SV := .lit (.bool true)
def eF : SV := .lit (.bool false)
def eN : SV := .lit (.pointer none)
/-! ### pieces, one behind the other -/
section
variable {P : Program} {Γ : Glob} {mem : Oracle} {Φ : Out → Prop}
theorem allOf_mem {α β : Type} {f : α → Option (List β)} : ∀ {l : List α} {r : List β}, allOf f l = some r → ∀ a ∈ l, ∃ x, f a = some x ∧ ∀ b ∈ x, b ∈ r
  | [], _, _, a, ha => by cases ha
  | a :: l, r, h, b, hb => by
    unfold allOf at h
    split at h
    · rename_i x y hx hy
      obtain rfl := Option.some.inj h
      rcases List.mem_cons.1 hb with rfl | hb
      · exact ⟨x, hx, fun b hb => List.mem_append_left _ hb⟩
      · obtain ⟨z, h1, h2⟩ := allOf_mem hy b hb
        exact ⟨z, h1, fun b hb => List.mem_append_right _ (h2 b hb)⟩
    · cases h
theorem runs_spine {n : Nat} : ∀ (k : Nat) (c : Code) (fr : Fr) (hp : Hp) (outs : List Out), runSeq P Γ mem n (spine k c).1 fr hp = some outs → (∀ o ∈ outs, O.Then (fun f h => O.Runs P Γ mem (.code (spine k c).2 none f h) Φ) Φ o) → O.Runs P Γ mem (.code c none fr hp) Φ
  | 0, c, fr, hp, outs, h, ho => by
    obtain rfl := Option.some.inj h
    exact ho _ (List.mem_singleton_self _)
  | k + 1, c, fr, hp, outs, h, ho => by
    cases c with
    | seq a b =>
      have h : (match runO P Γ mem n (.code a none fr hp) with
        | some os => seqOut (fun f h => runSeq P Γ mem n (spine k b).1 f h) os
        | none => none) = some outs := h
      split at h
      · rename_i os hos
        refine O.runs_seq (O.Runs.intro n hos fun o hm => ?_)
        rw [O.seqOut_eq] at h
        obtain ⟨x, hx, hmem⟩ := allOf_mem h o hm
        unfold O.seqStep at hx
        obtain ⟨ex, f, hh, v⟩ := o
        cases ex with
        | normal => exact runs_spine k b f hh x hx fun o2 h2 => ho o2 (hmem o2 h2)
        | exit id =>
          obtain rfl := Option.some.inj hx
          exact ho _ (hmem _ (List.mem_singleton_self _))
        | ret =>
          obtain rfl := Option.some.inj hx
          exact ho _ (hmem _ (List.mem_singleton_self _))
      · cases h
    | _ =>
      obtain rfl := Option.some.inj h
      exact ho _ (List.mem_singleton_self _)
/-- An operation that is told of. -/
theorem ops_a {ops : Array Oper} {o : Oper} {l : List Oper} {tm : T SV} {n d : Nat} {ms : List Nat} {hp : Hp} {v : SV} (hw : wantedQ ops ⟨tm, n, ms⟩ o = some true) (hq : quiet P Γ hp (Fr.ev ⟨tm, n, ms⟩) o.op = none) (ha : Γ.ask o.op (Fr.ev ⟨tm, n, ms⟩) = some v) (hd : o.dst = some d) (hn : Nat.blt d n = true)
    (h : O.RunsOps P Γ mem ops l ⟨tm.set d v, n, ms⟩ hp Φ) : O.RunsOps P Γ mem ops (o :: l) ⟨tm, n, ms⟩ hp Φ :=
  O.ops_cons (Ends.one (x := (⟨tm.set d v, n, ms⟩, hp)) (fun k => by simp only [oper, hw, quietA, hq, ha, put_slot hd hn, Option.map_some]) h)

/-! ### frames that look alike -/
structure Like (f g : Fr) : Prop where
  sz : f.sz = g.sz
  marks : f.marks = g.marks
  ev : f.ev = g.ev
theorem Like.put {f g f' : Fr} {d : Option Tmp} {v : SV} (h : Like f g) (hp : f.put d v = some f') : ∃ g', g.put d v = some g' ∧ Like f' g' := by
  obtain ⟨tf, n, ms⟩ := f
  obtain ⟨tg, n', ms'⟩ := g
  obtain rfl : n = n' := h.sz
  obtain rfl : ms = ms' := h.marks
  cases d with
  | none =>
    obtain rfl := Option.some.inj hp
    exact ⟨_, rfl, h⟩
  | some d =>
    unfold Fr.put at hp ⊢
    simp only at hp ⊢
    cases hb : Nat.blt d n with
    | false => rw [hb] at hp; cases hp
    | true =>
      rw [hb, cond_true] at hp
      obtain rfl := Option.some.inj hp
      refine ⟨_, rfl, rfl, rfl, funext fun x => ?_⟩
      cases x with
      | tmp k =>
        have := congrFun h.ev (.tmp k)
        rw [ev_set, ev_set, this]
      | const u => rfl
      | global u => rfl
      | func u => rfl
theorem Like.wanted {f g : Fr} (h : Like f g) (ops : Array Oper) (o : Oper) : wantedQ ops f o = wantedQ ops g o := by
  unfold wantedQ
  rw [h.sz, h.ev]
theorem Like.loud {f g : Fr} (h : Like f g) (self : Task → R) (hp : Hp) (o : Oper) : Ev.loud P Γ self f hp o = Ev.loud P Γ self g hp o := by
  unfold Ev.loud
  rw [h.ev]
theorem all_put {f g : Fr} (h : Like f g) (d : Option Tmp) : ∀ (rs : List (SV × Hp)) (l : List (Fr × Hp)), allOf (fun r => (f.put d r.1).map fun x => [(x, r.2)]) rs = some l → ∃ l', allOf (fun r => (g.put d r.1).map fun x => [(x, r.2)]) rs = some l' ∧ ∀ x' ∈ l', ∃ x ∈ l, Like x.1 x'.1 ∧ x.2 = x'.2
  | [], l, hl => ⟨[], rfl, fun x hx => by cases hx⟩
  | r :: rs, l, hl => by
    unfold allOf at hl
    split at hl
    · rename_i x y hx hy
      obtain rfl := Option.some.inj hl
      obtain ⟨f', hf, rfl⟩ := Option.map_eq_some_iff.1 hx
      obtain ⟨g', hg, hlike⟩ := h.put hf
      obtain ⟨l', h1, h2⟩ := all_put h d rs y hy
      refine ⟨[(g', r.2)] ++ l', by unfold allOf; simp only [hg, h1, Option.map_some], fun x' hx' => ?_⟩
      rcases List.mem_append.1 hx' with hx' | hx'
      · obtain rfl := List.mem_singleton.1 hx'
        exact ⟨_, List.mem_append_left _ (List.mem_singleton_self _), hlike, rfl⟩
      · obtain ⟨x, h3, h4⟩ := h2 x' hx'
        exact ⟨x, List.mem_append_right _ h3, h4⟩
    · cases hl
theorem Like.oper {f g : Fr} (h : Like f g) (self : Task → R) (ops : Array Oper) (hp : Hp) (o : Oper) {l : List (Fr × Hp)} (hl : Ev.oper P Γ self ops f hp o = some l) : ∃ l', Ev.oper P Γ self ops g hp o = some l' ∧ ∀ x' ∈ l', ∃ x ∈ l, Like x.1 x'.1 ∧ x.2 = x'.2 := by
  have one : ∀ v, (f.put o.dst v).map (fun x => [(x, hp)]) = some l → ∃ l', (g.put o.dst v).map (fun x => [(x, hp)]) = some l' ∧ ∀ x' ∈ l', ∃ x ∈ l, Like x.1 x'.1 ∧ x.2 = x'.2 := fun v hv => by
    obtain ⟨f', hf, rfl⟩ := Option.map_eq_some_iff.1 hv
    obtain ⟨g', hg, hlike⟩ := h.put hf
    refine ⟨[(g', hp)], by rw [hg]; rfl, fun x' hx' => ?_⟩
    obtain rfl := List.mem_singleton.1 hx'
    exact ⟨_, List.mem_singleton_self _, hlike, rfl⟩
  unfold Ev.oper at hl ⊢
  rw [← h.wanted ops o, ← h.ev, ← h.loud self hp o]
  split at hl
  · cases hl
  · exact one _ hl
  · split at hl
    · exact one _ hl
    · split at hl
      · exact all_put h o.dst _ _ hl
      · cases hl
theorem Like.inTurn (self : Task → R) (ops : Array Oper) : ∀ (os : List Oper) {f g : Fr} (_ : Like f g) (hp : Hp) (l : List Out), Ev.inTurn P Γ self ops os f hp = some l → ∃ l', Ev.inTurn P Γ self ops os g hp = some l' ∧ ∀ x' ∈ l', ∃ x ∈ l, Like x.fr x'.fr ∧ x.exit = x'.exit ∧ x.hp = x'.hp
  | [], f, g, h, hp, l, hl => by
    obtain rfl := Option.some.inj hl
    refine ⟨_, rfl, fun x' hx' => ?_⟩
    obtain rfl := List.mem_singleton.1 hx'
    exact ⟨_, List.mem_singleton_self _, h, rfl, rfl⟩
  | o :: os, f, g, h, hp, l, hl => by
    unfold Ev.inTurn at hl
    split at hl
    · rename_i xs hxs
      obtain ⟨ys, hy, hys⟩ := h.oper self ops hp o hxs
      have key : ∀ ys : List (Fr × Hp), (∀ x' ∈ ys, ∃ x ∈ xs, Like x.1 x'.1 ∧ x.2 = x'.2) → ∃ l', allOf (fun x => Ev.inTurn P Γ self ops os x.1 x.2) ys = some l' ∧ ∀ x' ∈ l', ∃ x ∈ l, Like x.fr x'.fr ∧ x.exit = x'.exit ∧ x.hp = x'.hp := by
        intro ys
        induction ys with
        | nil => exact fun _ => ⟨[], rfl, fun x hx => by cases hx⟩
        | cons y ys ih =>
          intro hall
          obtain ⟨x, hx, hlike, hh⟩ := hall y (List.mem_cons_self ..)
          obtain ⟨lx, h1, h2⟩ := allOf_mem hl x hx
          obtain ⟨ly, h3, h4⟩ := Like.inTurn self ops os hlike x.2 lx h1
          rw [hh] at h3
          obtain ⟨l', h5, h6⟩ := ih fun x' hx' => hall x' (List.mem_cons_of_mem _ hx')
          refine ⟨ly ++ l', by unfold allOf; simp only [h3, h5], fun x' hx' => ?_⟩
          rcases List.mem_append.1 hx' with hx' | hx'
          · obtain ⟨z, h7, h8⟩ := h4 x' hx'
            exact ⟨z, h2 z h7, h8⟩
          · exact h6 x' hx'
      obtain ⟨l', h1, h2⟩ := key ys hys
      exact ⟨l', by unfold Ev.inTurn; simp only [hy, h1], h2⟩
    · cases hl
end

/-! ### the law's text -/
noncomputable def body : Code := bodyO Tryz.f4
noncomputable def restC : Code := (spine 9 body).2
noncomputable def nlC : Code := sL restC
noncomputable def finC : Code := sR restC
noncomputable def nlLoop : Code := inB (sR nlC)
def opsC : Code → Array Oper
  | .region _ ops _ => ops
  | _ => #[]
noncomputable def finOps : Array Oper := opsC (sL finC)
/-- The slots that the loop uses. -/
def dead (k : Nat) : Bool := Nat.beq k 10 || (Nat.beq k 20 || (Nat.ble 91 k && Nat.ble k 102))
theorem dead_eq (k : Nat) (hd : dead k = true) : k = 10 ∨ k = 20 ∨ k = 91 ∨ k = 92 ∨ k = 93 ∨ k = 94 ∨ k = 95 ∨ k = 96 ∨ k = 97 ∨ k = 98 ∨ k = 99 ∨ k = 100 ∨ k = 101 ∨ k = 102 := by
  unfold dead at hd
  rw [Bool.or_eq_true, Bool.or_eq_true, Bool.and_eq_true, Nat.ble_eq, Nat.ble_eq] at hd
  have b10 : Nat.beq k 10 = true → k = 10 := Nat.eq_of_beq_eq_true
  have b20 : Nat.beq k 20 = true → k = 20 := Nat.eq_of_beq_eq_true
  rcases hd with hd | hd | hd
  · have := b10 hd; omega
  · have := b20 hd; omega
  · omega
def KeepS (tm0 tm : T SV) : Prop := ∀ k, dead k = false → Fr.ev ⟨tm, 136, []⟩ (.tmp k) = Fr.ev ⟨tm0, 136, []⟩ (.tmp k)
theorem KeepS.set {tm0 tm : T SV} (h : KeepS tm0 tm) {d : Nat} {v : SV} (hd : dead d = true) : KeepS tm0 (tm.set d v) := fun k hk => by
  rw [ev_set, if_neg (fun e => by rw [e, hd] at hk; cases hk)]
  exact h k hk
section
variable {Γ : Glob} {mem : Oracle} {h : Hp} {rows : List Row} {j : Nat} {l : List UInt8}
def NlEnd (tm0 : T SV) (h : Hp) (o : Out) : Prop := o.exit = .exit 2 ∧ o.hp = h ∧ ∃ tm, o.fr = ⟨tm, 136, []⟩ ∧ KeepS tm0 tm ∧ Fr.ev ⟨tm, 136, []⟩ (.tmp 10) = .lit (.int .i64 0)
set_option maxHeartbeats 4000000 in
set_option maxRecDepth 20000 in
theorem nl_loop (ha : Γ.ask = askBy (askL rows j l)) (hr1 : findRow (.len 9 (.opq j)) rows = none) (hr2 : ∀ n, findRow (.idx 9 (.opq j) (.lit (.int .i64 n))) rows = none) (hl : l.length ≤ 1000000) {tm0 : T SV} (e15 : Fr.ev ⟨tm0, 136, []⟩ (.tmp 15) = .opq j) :
    ∀ (m i : Nat), l.length - i = m → i ≤ l.length → ∀ (tm : T SV), KeepS tm0 tm → Fr.ev ⟨tm, 136, []⟩ (.tmp 20) = .lit (.int .i64 i) → Fr.ev ⟨tm, 136, []⟩ (.tmp 10) = .lit (.int .i64 ((l.drop i).count 10 : Nat)) → O.Runs Tryz.prog Γ mem (.code nlLoop none ⟨tm, 136, []⟩ h) (NlEnd tm0 h) := by
  have askLen : ∀ ρ : Operand → SV, ρ (.tmp 92) = .opq j → Γ.ask (.call ⟨.builtin .len, #[.tmp 92], #[9]⟩) ρ = some (.lit (.int .i64 l.length)) := fun ρ hρ => by
    rw [ha]
    show askL rows j l (.len 9 (ρ (.tmp 92))) = _
    rw [hρ]
    unfold askL
    rw [hr1]
    simp only [Nat.beq_refl, Bool.and_self, cond_true]
  have askIdx : ∀ (ρ : Operand → SV) (i : Nat) (hi : i < l.length), ρ (.tmp 97) = .opq j → ρ (.tmp 98) = .lit (.int .i64 i) → Γ.ask (.index 9 (.tmp 97) (.tmp 98)) ρ = some (.lit (.int .u8 (l[i].toNat : Nat))) := fun ρ i hi h1 h2 => by
    rw [ha]
    show askL rows j l (.idx 9 (ρ (.tmp 97)) (ρ (.tmp 98))) = _
    rw [h1, h2]
    unfold askL
    rw [hr2 i]
    show (bif Nat.beq 9 9 && Nat.beq j j then (l[i]?).map fun b => SV.lit (.int .u8 b.toNat) else none) = _
    simp only [Nat.beq_refl, Bool.and_self, cond_true, List.getElem?_eq_getElem hi, Option.map_some]
  have k15 : ∀ tm, KeepS tm0 tm → Fr.ev ⟨tm, 136, []⟩ (.tmp 15) = .opq j := fun tm hk => (hk 15 rfl).trans e15
  intro m
  induction m with
  | zero =>
    intro i hm hi tm hk e20 e10
    have e : i = l.length := by omega
    have hc : (l.drop i).count 10 = 0 := by rw [List.drop_eq_nil_of_le (by omega)]; rfl
    rw [hc] at e10
    have e15 := k15 tm hk
    refine O.runs_loop (O.runs_seq (O.runs_seq (O.runs_region ?_)))
    refine O.ops_q (v := .lit (.int .i64 i)) (fs := []) rfl (by simp only [quiet, e20]) rfl rfl ?_
    refine O.ops_q (v := .opq j) (fs := []) rfl (by simp only [quiet, ev_set]; exact congrArg (fun v => some (v, [])) e15) rfl rfl ?_
    refine ops_a (v := .lit (.int .i64 l.length)) rfl (by simp only [quiet]; rfl) (askLen _ (by simp only [ev_set]; rfl)) rfl rfl ?_
    refine O.ops_q (v := .lit (.bool false)) (fs := []) rfl (by simp only [quiet, ev_set]; exact congrArg one (c3_lssF (by omega))) rfl rfl ?_
    refine O.ops_nil (thenN ?_)
    refine O.runs_cond false (by simp [ev_set]) (O.runs_exit ?_)
    exact ⟨rfl, rfl, _, rfl, (((hk.set rfl).set rfl).set rfl).set rfl, by simp only [ev_set]; exact e10⟩
  | succ m ih =>
    intro i hm hi tm hk e20 e10
    have hlt : i < l.length := by omega
    have e15 := k15 tm hk
    have hdrop : l.drop i = l[i] :: l.drop (i + 1) := List.drop_eq_getElem_cons hlt
    have hcn : (l.drop (i + 1)).count 10 ≤ 1000000 := Nat.le_trans List.count_le_length (by rw [List.length_drop]; omega)
    refine O.runs_loop (O.runs_seq (O.runs_seq (O.runs_region ?_)))
    refine O.ops_q (v := .lit (.int .i64 i)) (fs := []) rfl (by simp only [quiet, e20]) rfl rfl ?_
    refine O.ops_q (v := .opq j) (fs := []) rfl (by simp only [quiet, ev_set]; exact congrArg (fun v => some (v, [])) e15) rfl rfl ?_
    refine ops_a (v := .lit (.int .i64 l.length)) rfl (by simp only [quiet]; rfl) (askLen _ (by simp only [ev_set]; rfl)) rfl rfl ?_
    refine O.ops_q (v := .lit (.bool true)) (fs := []) rfl (by simp only [quiet, ev_set]; exact congrArg one (c3_lssT (by omega))) rfl rfl ?_
    refine O.ops_nil (thenN ?_)
    refine O.runs_cond true (by simp [ev_set]) (O.runs_skip (thenN ?_))
    refine O.runs_seq (O.runs_block (O.runs_seq (O.runs_region ?_)))
    refine O.ops_q (v := .opq j) (fs := []) rfl (by simp only [quiet, ev_set]; exact congrArg (fun v => some (v, [])) e15) rfl rfl ?_
    refine O.ops_q (v := .lit (.int .i64 i)) (fs := []) rfl (by simp only [quiet, ev_set]; exact congrArg (fun v => some (v, [])) e20) rfl rfl ?_
    refine ops_a (v := .lit (.int .u8 (l[i].toNat : Nat))) rfl (by simp only [quiet, ev_set]; rfl) (askIdx _ i hlt (by simp only [ev_set]; rfl) (by simp only [ev_set]; rfl)) rfl rfl ?_
    by_cases hb : l[i] = 10
    · have hcount : (l.drop i).count 10 = (l.drop (i + 1)).count 10 + 1 := by rw [hdrop, List.count_cons, hb]; rfl
      have hbn : ((l[i].toNat : Nat) : Int) = 10 := by rw [hb]; rfl
      rw [hcount] at e10
      refine O.ops_q (v := .lit (.bool true)) (fs := []) rfl (by simp only [quiet, ev_set]; exact congrArg one (c5_eqlT hbn)) rfl rfl ?_
      refine O.ops_nil (thenN ?_)
      refine O.runs_cond true (by simp [ev_set]) (O.runs_region ?_)
      refine O.ops_q (v := .lit (.int .i64 ((l.drop (i + 1)).count 10 + 1 : Nat))) (fs := []) rfl (by simp only [quiet, ev_set]; exact congrArg (fun v => some (v, [])) e10) rfl rfl ?_
      refine O.ops_q (v := .lit (.int .i64 ((l.drop (i + 1)).count 10 : Nat))) (fs := []) rfl (by simp only [quiet, ev_set]; exact congrArg one (a3_sub (by omega) (by omega) (by omega))) rfl rfl ?_
      refine O.ops_q (v := .lit (.int .i64 ((l.drop (i + 1)).count 10 : Nat))) (fs := []) rfl (by simp only [quiet, ev_set]; rfl) rfl rfl ?_
      refine O.ops_nil (thenN ?_)
      refine O.runs_region ?_
      refine O.ops_q (v := .lit (.int .i64 i)) (fs := []) rfl (by simp only [quiet, ev_set]; exact congrArg (fun v => some (v, [])) e20) rfl rfl ?_
      refine O.ops_q (v := .lit (.int .i64 ((i + 1 : Nat) : Int))) (fs := []) rfl (by simp only [quiet, ev_set]; exact congrArg one (a3_add (by omega) (by omega) (by omega))) rfl rfl ?_
      refine O.ops_q (v := .lit (.int .i64 ((i + 1 : Nat) : Int))) (fs := []) rfl (by simp only [quiet, ev_set]; rfl) rfl rfl ?_
      refine O.ops_nil (thenN ?_)
      exact ih (i + 1) (by omega) (by omega) _ ((((((((((((((hk.set rfl).set rfl).set rfl).set rfl).set rfl).set rfl).set rfl).set rfl).set rfl).set rfl).set rfl).set rfl).set rfl).set rfl) (by simp only [ev_set]; rfl) (by simp only [ev_set]; rfl)
    · have hcount : (l.drop i).count 10 = (l.drop (i + 1)).count 10 := by rw [hdrop, List.count_cons]; simp [hb]
      have hbn : ¬ ((l[i].toNat : Nat) : Int) = 10 := fun e => hb (UInt8.toNat_inj.1 (by show l[i].toNat = 10; omega))
      rw [hcount] at e10
      refine O.ops_q (v := .lit (.bool false)) (fs := []) rfl (by simp only [quiet, ev_set]; exact congrArg one (c5_eqlF hbn)) rfl rfl ?_
      refine O.ops_nil (thenN ?_)
      refine O.runs_cond false (by simp [ev_set]) (O.runs_skip (thenN ?_))
      refine O.runs_region ?_
      refine O.ops_q (v := .lit (.int .i64 i)) (fs := []) rfl (by simp only [quiet, ev_set]; exact congrArg (fun v => some (v, [])) e20) rfl rfl ?_
      refine O.ops_q (v := .lit (.int .i64 ((i + 1 : Nat) : Int))) (fs := []) rfl (by simp only [quiet, ev_set]; exact congrArg one (a3_add (by omega) (by omega) (by omega))) rfl rfl ?_
      refine O.ops_q (v := .lit (.int .i64 ((i + 1 : Nat) : Int))) (fs := []) rfl (by simp only [quiet, ev_set]; rfl) rfl rfl ?_
      refine O.ops_nil (thenN ?_)
      exact ih (i + 1) (by omega) (by omega) _ (((((((((((hk.set rfl).set rfl).set rfl).set rfl).set rfl).set rfl).set rfl).set rfl).set rfl).set rfl).set rfl) (by simp only [ev_set]; rfl) (by simp only [ev_set]; exact e10)

/-- A frame behind the loop, with any values where the loop wrote. -/
def fill (tm : T SV) (v : Nat → SV) : T SV := ((((((((((((((tm.set 10 (.lit (.int .i64 0))).set 20 (v 20)).set 91 (v 91)).set 92 (v 92)).set 93 (v 93)).set 94 (v 94)).set 95 (v 95)).set 96 (v 96)).set 97 (v 97)).set 98 (v 98)).set 99 (v 99)).set 100 (v 100)).set 101 (v 101)).set 102 (v 102))
theorem fill_like {tm0 tm : T SV} (hk : KeepS tm0 tm) (e10 : Fr.ev ⟨tm, 136, []⟩ (.tmp 10) = .lit (.int .i64 0)) : Like ⟨fill tm0 (fun k => Fr.ev ⟨tm, 136, []⟩ (.tmp k)), 136, []⟩ ⟨tm, 136, []⟩ := by
  refine ⟨rfl, rfl, funext fun x => ?_⟩
  cases x with
  | tmp k =>
    cases hd : dead k with
    | false =>
      rw [hk k hd]
      have hne : ∀ d, dead d = true → k ≠ d := fun d h e => by rw [e, h] at hd; cases hd
      unfold fill
      simp only [ev_set, if_neg (hne 10 rfl), if_neg (hne 20 rfl), if_neg (hne 91 rfl), if_neg (hne 92 rfl), if_neg (hne 93 rfl), if_neg (hne 94 rfl), if_neg (hne 95 rfl), if_neg (hne 96 rfl), if_neg (hne 97 rfl), if_neg (hne 98 rfl), if_neg (hne 99 rfl), if_neg (hne 100 rfl), if_neg (hne 101 rfl), if_neg (hne 102 rfl)]
    | true =>
      have hk2 := dead_eq k hd
      unfold fill
      rcases hk2 with rfl | rfl | rfl | rfl | rfl | rfl | rfl | rfl | rfl | rfl | rfl | rfl | rfl | rfl
      · simp only [ev_set]; exact e10.symm
      all_goals (simp only [ev_set]; rfl)
  | const u => rfl
  | global u => rfl
  | func u => rfl
/-- Does the last region tell true? -/
noncomputable def finOk (Γ : Glob) (mem : Oracle) (n : Nat) (tm : T SV) (h : Hp) (v : Nat → SV) : Bool := match inTurn Tryz.prog Γ (runO Tryz.prog Γ mem n) finOps finOps.toList ⟨fill tm v, 136, []⟩ h with
  | some l => l.all fun o => match o.exit, o.fr.marks, o.fr.ev (.tmp 4) with
    | .normal, [], .lit (.bool true) => true
    | _, _, _ => false
  | none => false
/-- Is the run ahead of the loop as it has to be, and the last region behind it? -/
noncomputable def preOk (Γ : Glob) (mem : Oracle) (n j c : Nat) (v : Nat → SV) : Bool := match runSeq Tryz.prog Γ mem n (spine 9 body).1 ⟨T.ofList [.opq 0, .opq 1] 0 .leaf, 136, []⟩ ⟨.leaf, 1000⟩ with
  | some l => l.all fun o => match o.exit, o.fr with
    | .normal, ⟨tm, 136, []⟩ => SV.same (Fr.ev ⟨tm, 136, []⟩ (.tmp 15)) (.opq j) && (SV.same (Fr.ev ⟨tm, 136, []⟩ (.tmp 10)) (.lit (.int .i64 c)) && finOk Γ mem n tm o.hp v)
    | _, _ => false
  | none => false
set_option maxHeartbeats 1000000 in
set_option maxRecDepth 20000 in
theorem law_runs {n c : Nat} (ha : Γ.ask = askBy (askL rows j l)) (hr1 : findRow (.len 9 (.opq j)) rows = none) (hr2 : ∀ n, findRow (.idx 9 (.opq j) (.lit (.int .i64 n))) rows = none) (hl : l.length ≤ 1000000) (hc : l.count 10 = c) (hno : mem 4 [.opq 0, .opq 1] ⟨.leaf, 1000⟩ = none)
    (hpre : ∀ v, preOk Γ mem n j c v = true) : O.Runs Tryz.prog Γ mem (.call 4 [.opq 0, .opq 1] ⟨.leaf, 1000⟩) fun o => o.v = .lit (.bool true) := by
  cases hrun : runSeq Tryz.prog Γ mem n (spine 9 body).1 ⟨T.ofList [.opq 0, .opq 1] 0 .leaf, 136, []⟩ ⟨.leaf, 1000⟩ with
  | none =>
    have := hpre fun _ => .lit undef
    unfold preOk at this
    rw [hrun] at this
    cases this
  | some outs =>
    have hout : ∀ o ∈ outs, ∃ tm h v, o = ⟨.normal, ⟨tm, 136, []⟩, h, v⟩ ∧ Fr.ev ⟨tm, 136, []⟩ (.tmp 15) = .opq j ∧ Fr.ev ⟨tm, 136, []⟩ (.tmp 10) = .lit (.int .i64 c) ∧ ∀ v, finOk Γ mem n tm h v = true := by
      intro o ho
      have hall : ∀ v, (match o.exit, o.fr with
        | .normal, ⟨tm, 136, []⟩ => SV.same (Fr.ev ⟨tm, 136, []⟩ (.tmp 15)) (.opq j) && (SV.same (Fr.ev ⟨tm, 136, []⟩ (.tmp 10)) (.lit (.int .i64 c)) && finOk Γ mem n tm o.hp v)
        | _, _ => false) = true := fun v => by
        have := hpre v
        unfold preOk at this
        rw [hrun] at this
        exact List.all_eq_true.1 this o ho
      obtain ⟨ex, ⟨tm, sz, ms⟩, h, u⟩ := o
      have h0 := hall fun _ => .lit undef
      split at h0
      · rename_i tm' hex hfr
        have hex : ex = .normal := hex
        obtain ⟨rfl, rfl, rfl⟩ := Fr.mk.inj hfr
        subst hex
        simp only [Bool.and_eq_true] at h0
        refine ⟨tm, h, u, rfl, same_eq _ _ h0.1, same_eq _ _ h0.2.1, fun v => ?_⟩
        have := hall v
        simp only [Bool.and_eq_true] at this
        exact this.2.2
      · cases h0
    refine O.runs_call Tryz.func4 rfl ?_ hno
    refine runs_spine (n := n) 9 body _ _ outs hrun fun o ho => ?_
    obtain ⟨tm, h, u, rfl, e15, e10, hfin⟩ := hout o ho
    refine thenN ?_
    show O.Runs Tryz.prog Γ mem (.code (.seq nlC finC) none ⟨tm, 136, []⟩ h) _
    refine O.runs_seq ?_
    show O.Runs Tryz.prog Γ mem (.code (.seq (sL nlC) (.block 2 nlLoop)) none ⟨tm, 136, []⟩ h) _
    refine O.runs_seq (O.runs_region ?_)
    refine O.ops_q (v := .lit (.int .i64 0)) (fs := []) rfl rfl rfl rfl ?_
    refine O.ops_nil (thenN ?_)
    refine O.runs_block ?_
    have e10' : Fr.ev ⟨tm.set 20 (.lit (.int .i64 0)), 136, []⟩ (.tmp 10) = .lit (.int .i64 ((l.drop 0).count 10 : Nat)) := by
      rw [ev_set, if_neg (by decide), e10, List.drop_zero, hc]
    refine (nl_loop ha hr1 hr2 hl e15 l.length 0 (by omega) (by omega) (tm.set 20 (.lit (.int .i64 0))) (KeepS.set (fun k _ => rfl) rfl) (by simp only [ev_set]; rfl) e10').mono ?_
    rintro ⟨ex, fr, h1, v1⟩ ⟨hex, hh, tm', hfr, hk, e10⟩
    have hex : ex = .exit 2 := hex
    have hh : h1 = h := hh
    have hfr : fr = ⟨tm', 136, []⟩ := hfr
    subst hex hh hfr
    show O.Then _ _ ⟨.normal, ⟨tm', 136, []⟩, h1, v1⟩
    refine thenN ?_
    have hlike := fill_like hk e10
    have hf := hfin fun k => Fr.ev ⟨tm', 136, []⟩ (.tmp k)
    unfold finOk at hf
    split at hf
    · rename_i lo hlo
      obtain ⟨l', h2, h3⟩ := Like.inTurn _ _ _ hlike _ _ hlo
      show O.Runs Tryz.prog Γ mem (.code (.seq (sL finC) .ret) none ⟨tm', 136, []⟩ h1) _
      refine O.runs_seq (O.Runs.intro (n + 1) (outs := l') ?_ fun o' ho' => ?_)
      · exact h2
      · obtain ⟨o, ho, hl1, hl2, hl3⟩ := h3 o' ho'
        have := List.all_eq_true.1 hf o ho
        obtain ⟨ex', ⟨t', sz', ms'⟩, hh', v'⟩ := o'
        split at this
        · rename_i g1 g2 g3
          have hex : ex' = .normal := (hl2.symm.trans g1)
          have hms : ms' = [] := (hl1.marks.symm.trans g2)
          have h4 : Fr.ev ⟨t', sz', ms'⟩ (.tmp 4) = .lit (.bool true) := (congrFun hl1.ev (.tmp 4)).symm.trans g3
          subst hex hms
          refine thenN (O.runs_ret ?_)
          have e : leave Tryz.prog Γ Tryz.f4 ⟨.ret, ⟨t', sz', []⟩, hh', .lit undef⟩ = some [⟨.ret, ⟨t', sz', []⟩, hh', Fr.ev ⟨t', sz', []⟩ (.tmp 4)⟩] := rfl
          exact ⟨_, e, h4⟩
        · cases this
    · cases hf
end
end Go.Proofs.YtcpigoljjbhkkaaGreatDoor.ft
