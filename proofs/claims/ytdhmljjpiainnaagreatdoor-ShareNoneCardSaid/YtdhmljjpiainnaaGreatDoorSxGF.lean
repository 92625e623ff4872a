/-
  SYMBOLIC RUNS (20): trees in memory, as claims; lists of nodes that grow; by the author of this claim. | SYMBOLIC RUNS (22): what is known of package variables; strings.Builder's text as a claim; by the author of this claim. | SYMBOLIC RUNS (23): kinds of keys; the parser's signs as a claim; by the author of this claim.
-/
import Derived.Test.YtdhmljjpiainnaaGreatDoorSxGC
import Derived.Test.YtdhmljjpiainnaaGreatDoorSxGD
import Derived.Test.YtdhmljjpiainnaaGreatDoorProg
namespace Go.Proofs.YtdhmljjpiainnaaGreatDoor.Sx
open Go Go.Proofs.YtdhmljjpiainnaaGreatDoor.Ev
structure ND where
  k : Int
  v0 : Int
  v1 : Int
  v2 : Int
  v3 : List UInt8
  v4 : Bool
  v5 : Int
  name : List UInt8
  a0 : Int
  a1 : Int
  a2 : Int
  a3 : Int
  a4 : Bool
  a5 : Bool
  b0 : Int
  b1 : Int
  b2 : Int
  b3 : Int
  b4 : Bool
  b5 : Bool
  rows : Int
def ND.cells (x : ND) (L : SV) : List SV := [iV x.k, iV x.v0, iV x.v1, iV x.v2, sV x.v3, bV x.v4, iV x.v5, sV x.name, iV x.a0, iV x.a1, iV x.a2, iV x.a3, bV x.a4, bV x.a5, iV x.b0, iV x.b1, iV x.b2, iV x.b3, bV x.b4, bV x.b5, iV x.rows, L]
theorem ND.len (x : ND) (L : SV) : (x.cells L).length = 22 := rfl
inductive Tr where
  | mk (x : ND) (ks : List Tr)
def Tr.nd : Tr → ND
  | .mk x _ => x
def Tr.kids : Tr → List Tr
  | .mk _ ks => ks
mutual
def Tr.size : Tr → Nat
  | .mk _ ks => sizeL ks + 1
def sizeL : List Tr → Nat
  | [] => 0
  | t :: ts => t.size + sizeL ts
end
@[simp] theorem sizeL_nil : sizeL [] = 0 := rfl
@[simp] theorem sizeL_cons (t : Tr) (ts : List Tr) : sizeL (t :: ts) = t.size + sizeL ts := rfl
@[simp] theorem size_mk (x : ND) (ks : List Tr) : (Tr.mk x ks).size = sizeL ks + 1 := rfl
@[simp] theorem sizeL_append : ∀ (a b : List Tr), sizeL (a ++ b) = sizeL a + sizeL b
  | [], b => by simp [sizeL]
  | t :: a, b => by rw [List.cons_append, sizeL, sizeL, sizeL_append a b]; omega
def LenIs (L : SV) (n : Int) : Prop := SV.one L = true ∧ SV.same L L = true ∧ ∀ h, lenQ Tryz.prog h 36 L = some (iV n, [])
def IdxAt (L : SV) (n : Nat) (q : Nat → SV) : Prop := ∀ i, i < n → indexAddrQ Tryz.prog 36 L (.lit (.int .i64 (Int.ofNat i))) = some (q i)
inductive TreeAt (Γ : Glob) (Z : Hp) : SV → Tr → Prop
  | mk {p : SV} {x : ND} {L : SV} {ks : List Tr} (q : Nat → SV) : PtrTo Γ Z p (x.cells L) → LenIs L ks.length → IdxAt L ks.length q → (∀ i t, ks[i]? = some t → TreeAt Γ Z (q i) t) → TreeAt Γ Z p ⟨x, ks⟩
def KidsOf (Γ : Glob) (Z : Hp) (L : SV) (ks : List Tr) : Prop := LenIs L ks.length ∧ ∃ q : Nat → SV, IdxAt L ks.length q ∧ ∀ i t, ks[i]? = some t → TreeAt Γ Z (q i) t
section
variable {Γ : Glob} {Z Z' h : Hp} {p L v : SV} {t : Tr} {ks ts : List Tr} {x : ND} {l m : List Asrt} {b : Nat}
theorem TreeAt.sub (z : Sub Z Z') (w : TreeAt Γ Z p t) : TreeAt Γ Z' p t := by
  induction w with
  | mk q h1 h2 h3 _ ih => exact .mk q (ptr_Sub z h1) h2 h3 ih
theorem KidsOf.sub (z : Sub Z Z') (w : KidsOf Γ Z L ks) : KidsOf Γ Z' L ks := ⟨w.1, w.2.imp fun _ h => ⟨h.1, fun i t ht => (h.2 i t ht).sub z⟩⟩
theorem TreeAt.of (w : PtrTo Γ Z p (x.cells L)) (hk : KidsOf Γ Z L ks) : TreeAt Γ Z p ⟨x, ks⟩ := by
  obtain ⟨h1, q, h2, h3⟩ := hk
  exact .mk q w h1 h2 h3
theorem TreeAt.out (w : TreeAt Γ Z p ⟨x, ks⟩) : ∃ L, PtrTo Γ Z p (x.cells L) ∧ KidsOf Γ Z L ks := by
  cases w with
  | mk q h1 h2 h3 h4 => exact ⟨_, h1, h2, q, h3, h4⟩
def NodesOk (Γ : Glob) (Z : Hp) (es : List (ND × SV)) (ts : List Tr) : Prop := es.length = ts.length ∧ ∀ (i : Nat) e t, es[i]? = some e → ts[i]? = some t → e.1 = t.nd ∧ KidsOf Γ Z e.2 t.kids
theorem NodesOk.sub {es : List (ND × SV)} (z : Sub Z Z') (w : NodesOk Γ Z es ts) : NodesOk Γ Z' es ts := ⟨w.1, fun i e t h1 h2 => ⟨(w.2 i e t h1 h2).1, (w.2 i e t h1 h2).2.sub z⟩⟩
end
open Go Go.Proofs.YtdhmljjpiainnaaGreatDoor.Ev
open Go Go.Proofs.YtdhmljjpiainnaaGreatDoor.Ev
def iK (z : Int) : SV := .lit (.int .i64 z)
section
variable {Z h : Hp} {l : List Asrt} {M : Nat} {f : Int → Nat} {g : Int → List (List UInt8 × Bool)}
end
end Go.Proofs.YtdhmljjpiainnaaGreatDoor.Sx
