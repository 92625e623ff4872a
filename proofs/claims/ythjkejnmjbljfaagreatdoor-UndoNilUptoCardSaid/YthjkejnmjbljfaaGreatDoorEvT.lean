/-
  A LAW'S LAST STEP, by the author of this claim: a call that returns true and leaves what there was meets the row's word, whatever the types of its arguments; and an argument that is a struct as cells. Of any program.
-/
import Derived.Test.YthjkejnmjbljfaaGreatDoorEvP
import Derived.Carry
import Derived.ProofKit
import Derived.OpenShut
import Derived.Lib.LaidTab
namespace Go.Proofs.YthjkejnmjbljfaaGreatDoor.Ev
open Go Go.RowKit Go.WideShapes Go.ChangeShapes

section
variable {H : Type} {enc : TypeId × Value → H} {P : Program}

theorem back_all (hl : laidOutB P = true) {W W' : World} (hb : Below W.heap.size W W') {sp : Nat → Bool} (ts : List TypeId) : ∀ {vs : List Value} {ds : List (DataW H)} {ps : List MemPlace}, (∀ t ∈ ts, P.readableRec t = true ∧ t < P.types.size) →
    DataW.TrodAll enc P W 0 (fun _ => true) true ts vs ds ps → (∀ p ∈ ps, p.block < W.heap.size) → (∀ p ∈ ps, sp p.block = true) → DataW.TrodAll enc P W' 0 sp true ts vs ds ps := by
  induction ts with
  | nil =>
    intro vs ds ps _ h _ _
    cases vs <;> cases ds <;> exact h
  | cons t ts ih =>
    intro vs ds ps ht h hlt hs
    cases vs with
    | nil => cases ds <;> exact h.elim
    | cons v vs =>
      cases ds with
      | nil => exact h.elim
      | cons d ds =>
        obtain ⟨p, q, h1, h2, rfl⟩ := h
        exact ⟨p, q, WideElems.Trod_stays hl (ht t (List.mem_cons_self ..)).1 (ht t (List.mem_cons_self ..)).2 h1 (fun x hx => hb.same (hlt x (List.mem_append_left _ hx))) (fun x hx => hs x (List.mem_append_left _ hx)),
          ih (fun u hu => ht u (List.mem_cons_of_mem _ hu)) h2 (fun x hx => hlt x (List.mem_append_right _ hx)) (fun x hx => hs x (List.mem_append_right _ hx)), rfl⟩

/-- **A law that returned true, and left what there was, meets its row.** -/
theorem law_post {f : Func} {s : ChangeSpec} {tb : TypeId} {W W' : World} {args : Array Value} {ds gs : List (DataW H)} {before : List MemPlace} (hl : laidOutB P = true) (hts : ∀ t ∈ f.params.toList, P.readableRec t = true ∧ t < P.types.size)
    (hvars : s.vars = []) (hres : f.resultTypes = #[tb]) (hbt : P.underlying tb = some .bool) (hs : s.fn H ds = { results := [.lit (.bool true)], args := ds })
    (hW : DataW.Whole enc P f.params.toList s.vars false W args.toList ds gs before) (hb : Below W.heap.size W W') : s.post enc P f false true false false W args (.bool true) W' := by
  have hW' := hW
  obtain ⟨p, q, hA, hV, hp, _, _⟩ := hW
  rw [hvars] at hV
  have hgq : gs = [] ∧ q = [] := by
    cases gs with
    | nil => exact ⟨rfl, hV⟩
    | cons _ _ => exact hV.elim
  obtain ⟨rfl, rfl⟩ := hgq
  have hlt : ∀ x ∈ before, x.block < W.heap.size := fun x hx => hW'.lt x hx
  have hbe : before = p := by rw [hp, List.append_nil]
  refine post_of_below (pa := p) (pv := []) hW' (fun b sp hd => ?_) (fun sp hsp => ?_) (fun sp hsp => ?_) hp hb (ok_one hres rfl (okWide_bool_mk hbt _))
  · rw [List.append_nil, hs, hres]
    exact trodAll_cons_mk (shut_bool hbt _) trodAll_mk0
  · rw [List.append_nil, hs]
    exact back_all hl hb _ hts hA (fun x hx => hlt x (by rw [hbe]; exact hx)) fun x hx => hsp x (by rw [hbe]; exact hx)
  · rw [List.append_nil, hs, hvars]
    exact rfl

theorem cell_one {w : World} {r : Reach} {b : Nat} {t : TypeId} {v : Value} (h : Cell.okWide P w r b t v) : oneOf v = v := by
  cases v with
  | agg c =>
    exfalso
    unfold Cell.okWide at h
    split at h <;> first | (rename_i hh; cases hh) | skip
    unfold Cell.ok at h
    split at h <;> first | (rename_i hh; cases hh) | exact h
  | tuple c =>
    exfalso
    unfold Cell.okWide at h
    split at h <;> first | (rename_i hh; cases hh) | skip
    unfold Cell.ok at h
    split at h <;> first | (rename_i hh; cases hh) | exact h
  | _ => rfl

/-- A struct that came in: its cells. -/
theorem struct_cells {w : World} {r : Reach} {b : Nat} {t : TypeId} {v : Value} {fs : Array Field} {n : Nat} (hu : P.underlying t = some (.struct fs)) (hn : P.cellsOf t = n) (h : Value.okWide P w r b t v) :
    ∃ cs : Array Value, v = .agg cs ∧ cs.size = n ∧ ∀ c ∈ cs.toList, oneOf c = c := by
  unfold Value.okWide at h
  rw [hu] at h
  obtain ⟨cs, rfl, hsz, ts, _, _, hc⟩ := h
  refine ⟨cs, rfl, hsz.trans hn, fun c hm => ?_⟩
  obtain ⟨i, hi, he⟩ := List.mem_iff_getElem.1 hm
  obtain ⟨u, _, hok⟩ := hc i c (by rw [Array.getElem?_eq_some_iff]; exact ⟨by simpa using hi, by simpa using he⟩)
  exact cell_one hok

/-- Numbers for cells that are never looked into. -/
def opqs : Nat → Nat → List SV
  | _, 0 => []
  | k, n + 1 => .opq k :: opqs (k + 1) n
theorem opqs_ok {m : Nat} : ∀ (n k : Nat), k + n ≤ m → SV.okL (· < m) (opqs k n)
  | 0, _, _ => trivial
  | n + 1, k, h => ⟨show k < m by omega, opqs_ok n (k + 1) (by omega)⟩
theorem opqs_conc {θ : Ren} {cs : List Value} : ∀ (n k : Nat), (∀ i, i < n → oneOf (θ.opq (k + i)) = cs.getD i undef) → cs.length = n → concL θ (opqs k n) = cs
  | 0, _, _, h => by
    cases cs with
    | nil => rfl
    | cons _ _ => simp at h
  | n + 1, k, hc, h => by
    cases cs with
    | nil => simp at h
    | cons c cs =>
      have h0 := hc 0 (by omega)
      simp only [Nat.add_zero, List.getD_cons_zero] at h0
      simp only [opqs, concL, conc, h0]
      congr 1
      refine opqs_conc n (k + 1) (fun i hi => ?_) (by simpa using h)
      have := hc (i + 1) (by omega)
      simpa [Nat.add_assoc, Nat.add_comm 1 i] using this
end
/-! ### a package-level table of texts that the row lists -/
def strData (zs : List (List UInt8)) : DataW Unit := .agg (zs.map fun z => .lit (.string z))
def strCells (zs : List (List UInt8)) : List Value := zs.map fun z => .string ⟨z.toArray⟩

theorem cells_of_strs {enc : TypeId × Value → Unit} {P : Program} {w : World} {base : Nat} {sp : Nat → Bool} {held : Bool} {fuel : Nat} {t e : TypeId} {n : Nat} {cs : List Value} {zs : List (List UInt8)} {p : List MemPlace}
    (ht : P.underlying t = some (.array n e)) (he : P.underlying e = some .string) (hce : P.cellsOf e = 1) (hct : P.cellsOf t = n)
    (h : DataW.trod enc P w base sp held fuel t cs = some (strData zs, p)) : cs = strCells zs := by
  cases fuel with
  | zero => simp [DataW.trod] at h
  | succ fuel =>
    simp only [DataW.trod, ht, hce, hct, Nat.mul_one] at h
    split at h
    · rename_i hl
      obtain ⟨xs, hm, hx⟩ := Option.map_eq_some_iff.1 h
      have hxs : xs.map (·.1) = zs.map fun z => (DataW.lit (.string z) : DataW Unit) := by
        have := congrArg Prod.fst hx
        simpa [strData] using this
      have hxl : xs.length = n := by simpa using Lib.mapM_length hm
      have hzl : zs.length = n := by
        have := congrArg List.length hxs
        simp at this
        omega
      apply List.ext_getElem?
      intro i
      by_cases hi : i < n
      · obtain ⟨b, hb, hf⟩ := Lib.mapM_at hm i i (by simp [hi])
        obtain ⟨z, hc, rfl, _⟩ := DataW.trod_string he hf
        have h1 : cs[i]? = some (.string z) := by
          have := congrArg (·[0]?) hc
          simpa [List.getElem?_take, List.getElem?_drop] using this
        have h2 : (xs.map (·.1))[i]? = some (DataW.lit (.string z.data.toList) : DataW Unit) := by simp [hb]
        rw [hxs] at h2
        simp only [List.getElem?_map, Option.map_eq_some_iff, DataW.lit.injEq, Lit.string.injEq] at h2
        obtain ⟨z', hz', e⟩ := h2
        simp only [strCells, h1, List.getElem?_map, hz', Option.map_some, e]
      · rw [List.getElem?_eq_none (by omega), List.getElem?_eq_none (by simp [strCells]; omega)]
    · cases h

theorem laid_at {P : Program} {W : World} : ∀ {l : List (String × DataW Unit)} {ps : List MemPlace}, DataW.LaidVars P W l ps → ∀ x ∈ l, ∃ g t cs fuel p, P.globalNamed x.1 = some g ∧ (P.globals[g]?).map (·.type) = some t ∧ W.var? P x.1 = some cs ∧ DataW.trod (fun _ => ()) P W 0 (fun _ => true) false fuel t cs.toList = some (x.2, p)
  | [], _, _, x, hx => by cases hx
  | (n, d) :: r, ps, h, x, hx => by
    obtain ⟨g, t, cs, fuel, p, q, h1, h2, h3, h4, h5, _⟩ := h
    rcases List.mem_cons.1 hx with rfl | hx
    · exact ⟨g, t, cs, fuel, p, h1, h2, h3, h4⟩
    · exact laid_at h5 x hx

/-- What the row's list gives: the table's block holds its texts. -/
theorem strTab {P : Program} {W : World} {laid : List (String × DataW Unit)} {name : String} {zs : List (List UInt8)} {g : Nat} {t e : TypeId} {n : Nat} (hL : laidMet P laid W) (hx : (name, strData zs) ∈ laid)
    (hg : P.globalNamed name = some g) (hty : (P.globals[g]?).map (·.type) = some t) (ht : P.underlying t = some (.array n e)) (he : P.underlying e = some .string) (hce : P.cellsOf e = 1) (hct : P.cellsOf t = n) :
    globMet (T.leaf.set g (strCells zs)) W := by
  obtain ⟨ps, hv, _⟩ := hL
  obtain ⟨g', t', cs, fuel, p, h1, h2, h3, h4⟩ := laid_at hv _ hx
  obtain rfl := Option.some.inj (hg.symm.trans h1)
  obtain rfl := Option.some.inj (hty.symm.trans h2)
  have hc := cells_of_strs ht he hce hct h4
  intro k cs' hk
  rw [T.get_set] at hk
  by_cases hkg : k = g
  · subst hkg
    rw [if_pos rfl] at hk
    cases hk
    unfold World.var? at h3
    rw [h1] at h3
    simp only [Option.bind_some] at h3
    cases hh : W.heap[k]? with
    | none => rw [hh] at h3; cases h3
    | some o =>
      rw [hh] at h3
      cases o with
      | cells c e fr =>
        have : c = cs := by simpa using h3
        subst this
        exact ⟨e, fr, by rw [← hc]⟩
      | _ => cases h3
  · rw [if_neg hkg] at hk
    cases hk
/-! ### a witness's world: the listed tables hold what their initialisers lay -/
def litVal : Lit → Value
  | .int k n => .int k n
  | .bool b => .bool b
  | .string l => .string ⟨l.toArray⟩
  | _ => .bool false
mutual
def flat : DataW Unit → List Value
  | .lit l => [litVal l]
  | .agg ds => flatL ds
  | _ => []
def flatL : List (DataW Unit) → List Value
  | [] => []
  | d :: ds => flat d ++ flatL ds
end
def laidCells (l : List Value) : Obj → Obj
  | .cells _ t frozen => .cells l.toArray t frozen
  | o => o
def laidHeap (l : List (Nat × DataW Unit)) (h : Array Obj) : Array Obj := l.foldl (fun h x => h.modify x.1 (laidCells (flat x.2))) h
end Go.Proofs.YthjkejnmjbljfaaGreatDoor.Ev
