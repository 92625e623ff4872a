/-
  SYMBOLIC RUNS (18): ranges over functions, by certificate; loops and ends in any context; by the author of this claim. Of any program. | SYMBOLIC RUNS (19): ranges over texts; by the author of this claim. Of any program. | SYMBOLIC RUNS (21): elements set, lists of bytes and texts; by the author of this claim. Of any program.
-/
import Derived.Test.YtdhmljjpiainnaaGreatDoorSxGC
namespace Go.Proofs.YtdhmljjpiainnaaGreatDoor.Sx
open Go Go.Proofs.YtdhmljjpiainnaaGreatDoor.Ev
def sepL : List Asrt → Asrt
  | [] => puA True
  | a :: l => sepA a (sepL l)
theorem st_sepL {Z h : Hp} : ∀ {m l : List Asrt}, St Z (sepL m :: l) h ↔ St Z (m ++ l) h
  | [], _l => st_pu.trans ⟨fun s => s.2, fun s => ⟨trivial, s⟩⟩
  | a :: m, l => st_sep.trans ⟨fun s => (st_sepL (m := m) (l := a :: l)).1 s.rot1 |>.perm List.perm_middle, fun s => ((st_sepL (m := m) (l := a :: l)).2 (s.perm List.perm_middle.symm)).rot1⟩
def exL {α : Type} (f : α → List Asrt) (q : α → Prop) : Asrt := exA fun x => sepA (puA (q x)) (sepL (f x))
theorem st_exL {Z h : Hp} {α : Type} {f : α → List Asrt} {q : α → Prop} {l : List Asrt} : St Z (exL f q :: l) h ↔ ∃ x, q x ∧ St Z (f x ++ l) h :=
  st_ex.trans ⟨fun ⟨x, s⟩ => ⟨x, let s' := st_pu.1 (st_sep.1 s); ⟨s'.1, st_sepL.1 s'.2⟩⟩, fun ⟨x, q, s⟩ => ⟨x, st_sep.2 (st_pu.2 ⟨q, st_sepL.2 s⟩)⟩⟩
def Rounds (P : Program) (Γ : Glob) (B n : Nat) (args : Nat → List SV) (G : Nat → List Asrt) (J : Nat → Asrt) (Q : Asrt) : Prop := ∀ k, k < n → ∀ Z l h, St Z (G k ++ J k :: l) h → Runs P Γ (.round B (args k) h) fun o => ∃ Z', Sub Z Z' ∧ ((o.v = bV true ∧ St Z' (J (k + 1) :: l) o.hp) ∨ (o.v = bV false ∧ St Z' (Q :: l) o.hp))
def SeqP (P : Program) (Γ : Glob) (f : FuncId) (xs ys : List SV) (n : Nat) (args : Nat → List SV) (G : Nat → List Asrt) (la lb : List Asrt) : Prop := ∀ Z B J0 J Q l h, (∀ Z l h, St Z (lb ++ J0 :: l) h → St Z (J 0 :: l) h) → Rounds P Γ B n args G J Q → St Z (la ++ (lb ++ J0 :: l)) h → Runs P Γ (.call f (xs ++ [.yield B] ++ ys) h) fun o => ∃ Z', Sub Z Z' ∧ (St Z' (la ++ J n :: l) o.hp ∨ St Z' (la ++ Q :: l) o.hp)
def jz (J : Nat → Asrt) (x : Int) : Asrt := J x.toNat
def yA (v : Bool) (a b : Asrt) : Asrt := bif v then a else b
section
variable {P : Program} {Γ : Glob} {Z h : Hp} {B n : Nat} {args : Nat → List SV} {G : Nat → List Asrt} {J : Nat → Asrt} {Q : Asrt} {l : List Asrt}
theorem ya_t {v : Bool} {a b : Asrt} (c : v = true) (s : St Z (yA v a b :: l) h) : St Z (a :: l) h := by rw [c] at s; exact s
theorem ya_f {v : Bool} {a b : Asrt} (c : ¬ v = true) (s : St Z (yA v a b :: l) h) : St Z (b :: l) h := by
  rw [show v = false by cases v <;> simp_all] at s; exact s
theorem round_use (hr : Rounds P Γ B n args G J Q) {x : Int} (h0 : 0 ≤ x) (h1 : x.toNat < n) {as : List SV} {gs : List Asrt} (ha : args x.toNat = as) (hg : G x.toNat = gs) (s : St Z (gs ++ jz J x :: l) h) : Runs P Γ (.round B as h) fun o => ∃ Z', Sub Z Z' ∧ ∃ v : Bool, True ∧ o.v = bV v ∧ St Z' (yA v (jz J (x + 1)) Q :: l) o.hp := by
  rw [← ha]
  rw [← hg] at s
  refine (hr x.toNat h1 Z l h s).mono ?_
  rintro o ⟨Z', z, ⟨e, s⟩ | ⟨e, s⟩⟩
  · refine ⟨Z', z, true, trivial, e, ?_⟩
    show St Z' (J (x + 1).toNat :: l) o.hp
    rw [show (x + 1).toNat = x.toNat + 1 by omega]
    exact s
  · exact ⟨Z', z, false, trivial, e, s⟩
theorem jz_end {x : Int} (hx : x = (n : Int)) {la : List Asrt} (s : St Z (la ++ jz J x :: l) h) : St Z (la ++ J n :: l) h := by
  subst hx
  exact s
end
def jumpOf : SExit → Option Code
  | .normal => none
  | .ret => some .ret
  | .exit i => some (.exit i)
theorem roundEnd_as {B : Nat} {e : SExit} {fr : Fr} {h : Hp} {x : ALoop} {v : SV} (hB : h.objs.get B = some (.loop x)) : roundEnd B ⟨e, fr, h, v⟩ = some [⟨.ret, fr, h.upd B (.loop { x with state := bif (jumpOf e).isNone then .ready else .done, pending := jumpOf e }), .lit (.bool (jumpOf e).isNone)⟩] := by
  cases e <;> (simp only [roundEnd, endRoundE, hB]; rfl)
theorem runs_roundX {P : Program} {Γ : Glob} {hp : Hp} {Φ : Out → Prop} {b : Nat} {args : List SV} {x : ALoop} {fr : Fr} (hb : hp.objs.get b = some (.loop x)) (hl : Nat.beq args.length x.params.size = true) (hs : setAll (x.params.toList.zip args) ⟨x.tmps, x.sz, []⟩ = some fr)
    (h : Runs P Γ (.code x.assign (some b) fr hp) fun o => ∃ y, o.exit = .normal ∧ o.hp.objs.get b = some (.loop y) ∧ y.state = .ready ∧ Runs P Γ (.code x.body (some b) o.fr (o.hp.upd b (.loop { y with state := .busy }))) fun o2 => ∃ r, roundEnd b o2 = some [r] ∧ Φ r) :
    Runs P Γ (.round b args hp) Φ := by
  refine Runs.step (Ends.bind (g := fun k o => roundBody (runO P Γ theMem k) b x.body o) h (fun o ho => ?_) fun k xs hxs => ?_)
  · obtain ⟨y, h1, h2, h3, h4⟩ := ho
    refine Ends.bind (g := fun _ o2 => roundEnd b o2) h4 (fun o2 ⟨r, h5, h6⟩ => Ends.one (fun _ => h5) h6) fun k xs hxs => ?_
    have hxs : runO P Γ theMem k (.code x.body (some b) o.fr (o.hp.upd b (.loop { y with state := .busy }))) = some xs := hxs
    simp only [roundBody, h1, h2, h3, hxs]
  · have hxs : runO P Γ theMem k (.code x.assign (some b) fr hp) = some xs := hxs
    simp only [stepO, stepTask, hb, hl, cond_true, hs, hxs]
def RndOk {α β : Type} (P : Program) (Γ : Glob) (Z : Hp) (ps : Array Tmp) (asg body : Code) (nt : Nat) (tm : T SV) (args : List SV) (f : List Asrt) (fJ : α → List Asrt) (inv : α → Prop) (e : SExit) (fQ : β → List Asrt) (qinv : β → Prop) (B : Nat) (l : List Asrt) : Prop :=
  Nat.beq args.length ps.size = true ∧ ∃ fr, setAll (ps.toList.zip args) ⟨tm, nt, []⟩ = some fr ∧ ∀ h, St Z (f ++ l) h → Runs P Γ (.code asg (some B) fr h) fun o => o.exit = .normal ∧ ∃ Z1, Sub Z Z1 ∧ ∃ R : List Asrt, St Z1 (R ++ l) o.hp ∧
    ∀ l' h', St Z1 (R ++ l') h' → Runs P Γ (.code body (some B) o.fr h') fun o2 => ∃ Z2, Sub Z1 Z2 ∧ ((o2.exit = .normal ∧ ∃ y, inv y ∧ St Z2 (fJ y ++ l') o2.hp) ∨ (o2.exit = e ∧ ∃ y, qinv y ∧ St Z2 (fQ y ++ l') o2.hp))
section
variable {Z h : Hp} {l m : List Asrt} {b : Nat} {o o' : AObj}
theorem St.upd (s : St Z (l ++ own b o :: m) h) : St Z (l ++ own b o' :: m) (h.upd b o') := s.set
end
section
variable {P : Program} {Γ : Glob} {Z : Hp} {α β : Type}
theorem runs_rangeX {g : Operand} {ps : Array Tmp} {asg body : Code} {tm : T SV} {nt : Nat} {ms : List Nat} {f : FuncId} {xs ys : List SV} {n : Nat} {args : Nat → List SV} {G : Nat → List Asrt} {la lb : List Asrt} {Φ : Out → Prop} {l : List Asrt} {h : Hp}
    (hg : Fr.ev ⟨tm, nt, ms⟩ g = .func (.func f) xs ys) (hseq : SeqP P Γ f xs ys n args G la lb) (m0 : List Asrt) (fJ : α → List Asrt) (inv : Nat → α → Prop) (e : SExit) (he : (jumpOf e).isNone = false) (fQ : β → List Asrt) (qinv : β → Prop)
    (hst : St Z (la ++ (lb ++ (m0 ++ l))) h) (h0 : ∀ Z l h, St Z (lb ++ (m0 ++ l)) h → ∃ x, inv 0 x ∧ St Z (fJ x ++ l) h)
    (hrd : ∀ k, k < n → ∀ x, inv k x → ∀ Z B l, RndOk P Γ Z ps asg body nt tm (args k) (G k ++ fJ x) fJ (inv (k + 1)) e fQ qinv B l)
    (k1 : ∀ Z' x, inv n x → ∀ dm h v, St Z' (own dm (.deferred true) :: (la ++ (fJ x ++ l))) h → Φ ⟨.normal, ⟨tm, nt, dm :: ms⟩, h, v⟩)
    (k2 : ∀ Z' x, qinv x → ∀ dm h v, St Z' (own dm (.deferred true) :: (la ++ (fQ x ++ l))) h → Φ ⟨e, ⟨tm, nt, dm :: ms⟩, h, v⟩) :
    Runs P Γ (.code (.rangeFunc g ps asg body) none ⟨tm, nt, ms⟩ h) Φ := by
  refine runs_range (f := f) (args := xs ++ [.yield (h.next + 1)] ++ ys) (by rw [hg]; rfl) ?_
  generalize hx : (⟨.ready, none, 0, tm, nt, ps, asg, body, h.next⟩ : ALoop) = x
  have s1 := hst.new (o := .deferred true)
  have s2 : St Z (own (h.next + 1) (.loop x) :: own h.next (.deferred true) :: (la ++ (lb ++ (m0 ++ l)))) ⟨(h.objs.set h.next (.deferred true)).set (h.next + 1) (.loop x), h.next + 2⟩ := s1.new
  generalize hh2 : (⟨(h.objs.set h.next (.deferred true)).set (h.next + 1) (.loop x), h.next + 2⟩ : Hp) = h2 at s2 ⊢
  generalize h.next + 1 = B at s2 ⊢
  generalize h.next = dm at s2 ⊢
  have hJ0 : ∀ l', St Z (sepL (own B (.loop x) :: m0) :: l') h2 ↔ St Z (own B (.loop x) :: (m0 ++ l')) h2 := fun l' => st_sepL
  refine (hseq Z B (sepL (own B (.loop x) :: m0)) (fun k => sepA (own B (.loop x)) (exL fJ (inv k))) (sepA (own B (.loop { x with state := .done, pending := jumpOf e })) (exL fQ qinv)) (own dm (.deferred true) :: l) h2 ?_ ?_ ?_).mono ?_
  · intro Z l h' s
    have s : St Z (own B (.loop x) :: (lb ++ (m0 ++ l))) h' := by
      have := (st_sepL (m := own B (.loop x) :: m0)).1 (s.perm List.perm_middle)
      refine this.perm ?_
      classical
      exact List.perm_iff_count.2 fun a => by simp only [List.count_append, List.count_cons]; omega
    obtain ⟨y, q1, q2⟩ := h0 Z (own B (.loop x) :: l) h' (s.perm (by
      classical
      exact List.perm_iff_count.2 fun a => by simp only [List.count_append, List.count_cons]; omega))
    exact st_sep.2 (St.rot1 (st_exL.2 ⟨y, q1, q2⟩))
  · intro k hk Z l h' s
    have s := st_sep.1 (st_mid.1 s)
    have hB := (St.get (l := []) s).1
    obtain ⟨y, q1, q2⟩ := st_exL.1 (St.rot1 s)
    have q2 : St Z ((G k ++ fJ y) ++ own B (.loop x) :: l) h' := by
      refine q2.perm ?_
      classical
      exact List.perm_iff_count.2 fun a => by simp only [List.count_append, List.count_cons]; omega
    obtain ⟨r1, fr, r2, r3⟩ := hrd k hk y q1 Z B (own B (.loop x) :: l)
    have hxt : x.tmps = tm := by rw [← hx]
    have hxs : x.sz = nt := by rw [← hx]
    have hxp : x.params = ps := by rw [← hx]
    have hxa : x.assign = asg := by rw [← hx]
    have hxb : x.body = body := by rw [← hx]
    refine runs_roundX hB (by rw [hxp]; exact r1) (by rw [hxt, hxs, hxp]; exact r2) ?_
    rw [← hxa, ← hxb] at r3
    refine (r3 h' q2).mono ?_
    rintro o ⟨e1, Z1, z1, R, e2, e3⟩
    refine ⟨x, e1, (St.get (l := R) e2).1, by rw [← hx], ?_⟩
    refine (e3 (own B (.loop { x with state := .busy }) :: l) _ e2.upd).mono ?_
    rintro ⟨ex, fr2, H, v2⟩ ⟨Z2, z2, hc⟩
    rcases hc with ⟨c1, z, c2, c3⟩ | ⟨c1, z, c2, c3⟩
    · have c1 : ex = .normal := c1
      subst c1
      refine ⟨_, roundEnd_as (St.get c3).1, Z2, z1.trans z2, .inl ⟨rfl, st_sep.2 (St.rot1 (st_exL.2 ⟨z, c2, ?_⟩))⟩⟩
      have := c3.upd (o' := .loop x)
      rw [← hx] at this ⊢
      exact this
    · have c1 : ex = e := c1
      subst c1
      refine ⟨_, roundEnd_as (St.get c3).1, Z2, z1.trans z2, .inr ⟨by show SV.lit (.bool (jumpOf ex).isNone) = _; rw [he], st_sep.2 (St.rot1 (st_exL.2 ⟨z, c2, ?_⟩))⟩⟩
      have := c3.upd (o' := .loop { x with state := .done, pending := jumpOf ex })
      rw [he]
      exact this
  · have p0 : (own B (.loop x) :: own dm (.deferred true) :: (la ++ (lb ++ (m0 ++ l)))).Perm ((own B (.loop x) :: m0) ++ (la ++ (lb ++ own dm (.deferred true) :: l))) := by
      classical
      exact List.perm_iff_count.2 fun a => by simp only [List.count_append, List.count_cons]; omega
    refine (st_sepL.2 (s2.perm p0)).perm ?_
    classical
    exact List.perm_iff_count.2 fun a => by simp only [List.count_append, List.count_cons]; omega
  · rintro ⟨ex, fr2, H, v2⟩ ⟨Z', z', hc⟩
    rcases hc with hc | hc
    · have s3 := st_sep.1 (St.pull hc)
      have hB := (St.get (l := []) s3).1
      obtain ⟨y, q1, q2⟩ := st_exL.1 (St.rot1 s3)
      have s4 := q2.upd (o' := .loop { x with state := .exhausted })
      refine ⟨⟨.normal, ⟨tm, nt, dm :: ms⟩, H.upd B (.loop { x with state := .exhausted }), .lit undef⟩, ?_, k1 Z' y q1 dm _ _ ((s4.perm (l' := own B (.loop { x with state := .exhausted }) :: (own dm (.deferred true) :: (la ++ (fJ y ++ l)))) ?_).drop (l := [_]))⟩
      · have e1 : x.state = .ready := by rw [← hx]
        have e2 : x.pending = none := by rw [← hx]
        simp only [loopEnd, hB, e1, e2]
      · classical
        exact List.perm_iff_count.2 fun a => by simp only [List.count_append, List.count_cons]; omega
    · have s3 := st_sep.1 (St.pull hc)
      have hB := (St.get (l := []) s3).1
      obtain ⟨y, q1, q2⟩ := st_exL.1 (St.rot1 s3)
      have s4 := q2.upd (o' := .loop { { x with state := .done, pending := jumpOf e } with state := .exhausted })
      refine ⟨⟨e, ⟨tm, nt, dm :: ms⟩, H.upd B (.loop { { x with state := .done, pending := jumpOf e } with state := .exhausted }), .lit undef⟩, ?_, k2 Z' y q1 dm _ _ ((s4.perm (l' := own B (.loop { { x with state := .done, pending := jumpOf e } with state := .exhausted }) :: (own dm (.deferred true) :: (la ++ (fQ y ++ l)))) ?_).drop (l := [_]))⟩
      · cases e with
        | normal => cases he
        | ret => simp only [loopEnd, hB, jumpOf]
        | exit i => simp only [loopEnd, hB, jumpOf]
      · classical
        exact List.perm_iff_count.2 fun a => by simp only [List.count_append, List.count_cons]; omega
end
def setP : List (Tmp × XV) → T XV → T XV
  | [], f => f
  | (t, v) :: l, f => setP l (f.set t v)
theorem setP_ok {ρ : Va} {nt : Nat} {ms : List Nat} : ∀ {l : List (Tmp × XV)} {tm : T SV} {f : T XV}, l.all (fun x => Nat.blt x.1 nt) = true → FM ρ f ⟨tm, nt, ms⟩ → ∃ tm', setAll (l.map fun x => (x.1, x.2.sv ρ)) ⟨tm, nt, ms⟩ = some ⟨tm', nt, ms⟩ ∧ FM ρ (setP l f) ⟨tm', nt, ms⟩
  | [], tm, f, _, h => ⟨tm, rfl, h⟩
  | (t, v) :: l, tm, f, hl, h => by
    rw [List.all_cons, Bool.and_eq_true] at hl
    have h1 : FM ρ (f.set t v) ⟨tm.set t (v.sv ρ), nt, ms⟩ := by
      intro k w hk
      rw [T.get_set] at hk
      simp only [Fr.ev, T.get_set]
      by_cases e : k = t
      · rw [if_pos e] at hk ⊢
        rw [← Option.some.inj hk]
      · rw [if_neg e] at hk ⊢
        exact h k w hk
    obtain ⟨tm', e1, e2⟩ := setP_ok hl.2 h1
    refine ⟨tm', ?_, e2⟩
    have hb : Nat.blt t nt = true := hl.1
    show (match Fr.put ⟨tm, nt, ms⟩ (some t) (v.sv ρ) with | some f' => setAll _ f' | none => none) = _
    simp only [Fr.put, hb, cond_true]
    exact e1
theorem svL_zip (ρ : Va) : ∀ (ps : List Tmp) (vs : List XV), (ps.zip vs).map (fun x => (x.1, x.2.sv ρ)) = ps.zip (svL ρ vs)
  | [], _ => by simp
  | _ :: _, [] => by simp [svL]
  | p :: ps, v :: vs => by simp [svL, svL_zip ρ ps vs]
def symM (f : T XV) (mem : List MI) (win : List (Nat × List XV)) (c : Cnt) (mks : List Nat) : Sym := { f := f, mem := mem, win := win, c := c, mks := mks }
def rC (P : Program) (Γ : Glob) (code : Code) (B nt : Nat) (l : List Asrt) (Φ : Out → Prop) : Cx := ⟨P, Γ, code, some B, nt, [], l, Φ, fun _ _ => False⟩
def RndP {α β : Type} (Z0 : Hp) (fJ : α → List Asrt) (inv : α → Prop) (e : SExit) (fQ : β → List Asrt) (qinv : β → Prop) (l : List Asrt) (o : Out) : Prop := ∃ Z, Sub Z0 Z ∧ ((o.exit = .normal ∧ ∃ y, inv y ∧ St Z (fJ y ++ l) o.hp) ∨ (o.exit = e ∧ ∃ y, qinv y ∧ St Z (fQ y ++ l) o.hp))
def AsgP {α β : Type} (P : Program) (Γ : Glob) (Z0 : Hp) (body : Code) (B : Nat) (fJ : α → List Asrt) (inv : α → Prop) (e : SExit) (fQ : β → List Asrt) (qinv : β → Prop) (l : List Asrt) (o : Out) : Prop := o.exit = .normal ∧ ∃ Z, Sub Z0 Z ∧ ∃ R : List Asrt, St Z (R ++ l) o.hp ∧ ∀ l' h', St Z (R ++ l') h' → Runs P Γ (.code body (some B) o.fr h') (RndP Z fJ inv e fQ qinv l')
section
variable {P : Program} {Γ : Glob} [Mute Γ] {Z Z0 : Hp} {α β : Type} {ps : Array Tmp} {asg body : Code} {nt N : Nat} {fr : List (Nat × XV)} {ρ : Va} {c : Cnt} {fJ : α → List Asrt} {inv : α → Prop} {e : SExit} {fQ : β → List Asrt} {qinv : β → Prop} {B : Nat} {l : List Asrt}
theorem slots_conv {fr fr' : List (Nat × XV)} {f : Fr} {ρ0 : Va} (hf : fr'.map (fun x => (x.1, x.2.sv ρ)) = fr.map fun x => (x.1, x.2.sv ρ0)) (hs : ∀ x ∈ fr, f.ev (.tmp x.1) = x.2.sv ρ0) : ∀ x ∈ fr', f.ev (.tmp x.1) = x.2.sv ρ := fun x hx => by
  have := List.mem_map_of_mem (f := fun x : Nat × XV => (x.1, x.2.sv ρ)) hx
  rw [hf] at this
  obtain ⟨y, hy, he⟩ := List.mem_map.1 this
  obtain ⟨e1, e2⟩ := Prod.mk.inj he
  rw [← e1, ← e2]
  exact hs y hy
theorem chk_any {C : Cx} [Mute C.Γ] {c' : Code} {S : Sym} {t : Ct} {tm : T SV} {h : Hp} (hq : chk C.P none C.nt N (.run c') [] S t = true) (hc : C.c0 = c') (hd : den C t S.c ρ Z) (ho : OkC C ρ Z S tm h) : Runs C.P C.Γ (.code c' C.ro ⟨tm, C.nt, C.ms⟩ h) C.Φ := by
  have := chk_sound (C := C) (fn := none) (fun f hf => by cases hf) N (.run c') [] S t hq ρ Z tm h hd ho (by subst hc; rfl)
  exact this
theorem gx_round (vals : List XV) {args : List SV} {mem : List MI} {fm : List Asrt} {win : List (Nat × List XV)} {ta : Ct} (hq : chk P none nt N (.run asg) [] (symM (setP (ps.toList.zip vals) (ofPairs fr)) mem win c []) ta = true) (hw : ∀ x ∈ win, PtrTo Γ Z (ρ.r x.1) (svL ρ x.2)) (hv : svL ρ vals = args) (hlen : Nat.beq vals.length ps.size = true) (hlt : (ps.toList.zip vals).all (fun x => Nat.blt x.1 nt) = true)
    {tm : T SV} {ρ0 : Va} (hfr : fr.map (fun x => (x.1, x.2.sv ρ)) = fr.map fun x => (x.1, x.2.sv ρ0)) (hf0 : ∀ x ∈ fr, Fr.ev ⟨tm, nt, []⟩ (.tmp x.1) = x.2.sv ρ0) (hmem : memD ρ mem = fm) (hd : den (rC P Γ asg B nt (subA Z :: l) (AsgP P Γ Z body B fJ inv e fQ qinv l)) ta c ρ Z) : RndOk P Γ Z ps asg body nt tm args fm fJ inv e fQ qinv B l := by
  refine ⟨by rw [← hv, svL_len]; exact hlen, ?_⟩
  have hf := slots_conv hfr hf0
  obtain ⟨tm', e1, e2⟩ := setP_ok hlt (ofPairs_ok hf)
  rw [svL_zip, hv] at e1
  refine ⟨_, e1, fun h hs => ?_⟩
  rw [← hmem] at hs
  haveI : Mute (rC P Γ asg B nt (subA Z :: l) (AsgP P Γ Z body B fJ inv e fQ qinv l)).Γ := ‹Mute Γ›
  exact chk_any (C := rC P Γ asg B nt (subA Z :: l) (AsgP P Γ Z body B fJ inv e fQ qinv l)) hq rfl hd ⟨e2, st_mid.2 (st_sub.2 ⟨Sub.refl Z, hs⟩), fun x hx => (by cases hx), hw, rfl⟩
theorem d_asg {mem : List MI} {win : List (Nat × List XV)} {tb : Ct} (hq : chk P none nt N (.run body) [] (symM (ofPairs fr) mem win c []) tb = true) (hw : ∀ x ∈ win, PtrTo Γ Z (ρ.r x.1) (svL ρ x.2)) (hd : ∀ l, den (rC P Γ body B nt (subA Z :: l) (RndP Z fJ inv e fQ qinv l)) tb c ρ Z) : den (rC P Γ asg B nt (subA Z0 :: l) (AsgP P Γ Z0 body B fJ inv e fQ qinv l)) (.fin .normal fr mem) c ρ Z := by
  intro tm h v hf hs
  obtain ⟨z, hs⟩ := st_sub.1 (st_mid.1 hs)
  refine ⟨rfl, Z, z, memD ρ mem, hs, fun l' h' hs' => ?_⟩
  haveI : Mute (rC P Γ body B nt (subA Z :: l') (RndP Z fJ inv e fQ qinv l')).Γ := ‹Mute Γ›
  exact chk_any (C := rC P Γ body B nt (subA Z :: l') (RndP Z fJ inv e fQ qinv l')) hq rfl (hd l') ⟨ofPairs_ok hf, st_mid.2 (st_sub.2 ⟨Sub.refl Z, hs'⟩), fun x hx => (by cases hx), hw, rfl⟩
theorem d_next {mem : List MI} (y : α) (hy : inv y) (hm : memD ρ mem = fJ y) : den (rC P Γ body B nt (subA Z0 :: l) (RndP Z0 fJ inv e fQ qinv l)) (.fin .normal fr mem) c ρ Z := have _ := (inferInstance : Mute Γ); fun _ _ _ _ hs => let s := st_sub.1 (st_mid.1 hs); ⟨Z, s.1, .inl ⟨rfl, y, hy, by rw [← hm]; exact s.2⟩⟩
end
section
variable {C : Cx} [Mute C.Γ] {fn : Option Func} {Z : Hp} {ρ : Va} {K : Stk} {fr : List (Nat × XV)} {N : Nat}
def Cx.mark (C : Cx) (dm : Nat) : Cx := { C with ms := dm :: C.ms }
def GoOn (C : Cx) (ρ : Va) (Z : Hp) (K : Stk) (fr : List (Nat × XV)) (m : List Asrt) (dm : Nat) (e : SExit) : Prop := ∀ tm, (∀ x ∈ fr, Fr.ev ⟨tm, C.nt, C.ms⟩ (.tmp x.1) = x.2.sv ρ) → ∀ h v, St Z (own dm (.deferred true) :: (m ++ C.l)) h → aft C.P C.Γ C.ro C.Φ K ⟨e, ⟨tm, C.nt, dm :: C.ms⟩, h, v⟩
def popChk (P : Program) (fn : Option Func) (nt N : Nat) (c0 : Code) (p : List Nat) (e : SExit) (S : Sym) (t : Ct) : Bool := match kat c0 p with
  | some (K, _) => chk P fn nt N (.pop e) K S t
  | none => false
def GoOnP (C : Cx) (ρ : Va) (Z : Hp) (p : List Nat) (fr : List (Nat × XV)) (m : List Asrt) (dm : Nat) (e : SExit) : Prop := ∀ K c0, kat C.c0 p = some (K, c0) → GoOn C ρ Z K fr m dm e
def rAt (c0 : Code) (p : List Nat) : Code := match kat c0 p with
  | some (_, c) => c
  | none => .skip
def rG : Code → Operand
  | .rangeFunc g _ _ _ => g
  | _ => .tmp 0
def rPs : Code → Array Tmp
  | .rangeFunc _ ps _ _ => ps
  | _ => #[]
def rAsg : Code → Code
  | .rangeFunc _ _ a _ => a
  | c => c
def rBody : Code → Code
  | .rangeFunc _ _ _ b => b
  | c => c
def rThere (c0 : Code) (p : List Nat) : Bool := match kat c0 p with
  | some (_, .rangeFunc ..) => true
  | _ => false
theorem rThere_ok {c0 : Code} {p : List Nat} (h : rThere c0 p = true) : ∃ K, kat c0 p = some (K, .rangeFunc (rG (rAt c0 p)) (rPs (rAt c0 p)) (rAsg (rAt c0 p)) (rBody (rAt c0 p))) := by
  unfold rThere at h
  unfold rAt
  cases hk : kat c0 p with
  | none => rw [hk] at h; cases h
  | some x =>
    obtain ⟨K, c⟩ := x
    rw [hk] at h
    cases c with
    | rangeFunc => exact ⟨K, rfl⟩
    | _ => cases h
theorem goOn (hroot : ∀ f, fn = some f → C.Φ = fun o => ∃ r, leave C.P C.Γ f o = some [r] ∧ C.Post r.v r.hp) {p : List Nat} {c0 : Code} (hk : kat C.c0 p = some (K, c0)) {m : List Asrt} {dm : Nat} {e : SExit} {fr' : List (Nat × XV)} {mem : List MI} {win : List (Nat × List XV)} {c : Cnt} {mks : List Nat} {t : Ct} (ρ' : Va) (hq : popChk C.P fn C.nt N C.c0 p e (symM (ofPairs fr') mem win c mks) t = true)
    (hf : fr'.map (fun x => (x.1, x.2.sv ρ')) = fr.map fun x => (x.1, x.2.sv ρ)) (hm : memD ρ' mem = own dm (.deferred true) :: m) (hmk : dm :: C.ms = mks.map ρ'.n) (hw : ∀ x ∈ win, PtrTo C.Γ Z (ρ'.r x.1) (svL ρ' x.2)) (hd : den (C.mark dm) t c ρ' Z) : GoOn C ρ Z K fr m dm e := by
  intro tm hs h v hst
  unfold popChk at hq
  rw [hk] at hq
  have hs' : ∀ x ∈ fr', Fr.ev ⟨tm, C.nt, dm :: C.ms⟩ (.tmp x.1) = x.2.sv ρ' := fun x hx => by
    have := List.mem_map_of_mem (f := fun x : Nat × XV => (x.1, x.2.sv ρ')) hx
    rw [hf] at this
    obtain ⟨y, hy, he⟩ := List.mem_map.1 this
    obtain ⟨e1, e2⟩ := Prod.mk.inj he
    rw [← e1, ← e2]
    exact hs y hy
  haveI : Mute (C.mark dm).Γ := ‹Mute C.Γ›
  exact chk_sound (C := C.mark dm) (fn := fn) hroot N (.pop e) K _ t hq ρ' Z tm h hd ⟨ofPairs_ok hs', by show St Z (memD ρ' mem ++ C.l) h; rw [hm]; exact hst, fun x hx => (by cases hx), hw, hmk⟩ ⟨_, kat_dirs hk⟩ v
theorem gx_range {α β : Type} {p : List Nat} {mem : List MI} {c : Cnt} {g : Operand} {ps : Array Tmp} {asg body : Code} {f : FuncId} {xs ys : List SV} {n : Nat} {args : Nat → List SV} {G : Nat → List Asrt} {la lb : List Asrt} (hro : C.ro = none) (hk : kat C.c0 p = some (K, .rangeFunc g ps asg body))
    (hg : ∀ tm, (∀ x ∈ fr, Fr.ev ⟨tm, C.nt, C.ms⟩ (.tmp x.1) = x.2.sv ρ) → Fr.ev ⟨tm, C.nt, C.ms⟩ g = .func (.func f) xs ys) (hseq : SeqP C.P C.Γ f xs ys n args G la lb) (m0 : List Asrt) (fJ : α → List Asrt) (inv : Nat → α → Prop) (e : SExit) (he : (jumpOf e).isNone = false) (fQ : β → List Asrt) (qinv : β → Prop)
    (hst : ∀ l h, St Z (memD ρ mem ++ l) h → St Z (la ++ (lb ++ (m0 ++ l))) h) (h0 : ∀ Z l h, St Z (lb ++ (m0 ++ l)) h → ∃ x, inv 0 x ∧ St Z (fJ x ++ l) h)
    (hrd : ∀ k, k < n → ∀ x, inv k x → ∀ Z B l tm, (∀ x ∈ fr, Fr.ev ⟨tm, C.nt, []⟩ (.tmp x.1) = x.2.sv ρ) → RndOk C.P C.Γ Z ps asg body C.nt tm (args k) (G k ++ fJ x) fJ (inv (k + 1)) e fQ qinv B l)
    (h1 : ∀ Z x, inv n x → ∀ dm, GoOn C ρ Z K fr (la ++ fJ x) dm .normal) (h2 : ∀ Z x, qinv x → ∀ dm, GoOn C ρ Z K fr (la ++ fQ x) dm e) : den C (.stop p fr mem) c ρ Z := by
  have _ := (inferInstance : Mute C.Γ)
  intro K' c' hk' tm h hs hst'
  obtain ⟨rfl, rfl⟩ := Prod.mk.inj (Option.some.inj (hk'.symm.trans hk))
  rw [hro]
  refine runs_rangeX (hg tm hs) hseq m0 fJ inv e he fQ qinv (hst _ _ hst') h0 (fun k hk x hx Z B l => hrd k hk x hx Z B l tm hs) (fun Z x hx dm h v hh => ?_) fun Z x hx dm h v hh => ?_
  · rw [← hro]
    exact h1 Z x hx dm tm hs h v (by rw [List.append_assoc]; exact hh)
  · rw [← hro]
    exact h2 Z x hx dm tm hs h v (by rw [List.append_assoc]; exact hh)
theorem goOnP (hroot : ∀ f, fn = some f → C.Φ = fun o => ∃ r, leave C.P C.Γ f o = some [r] ∧ C.Post r.v r.hp) {p : List Nat} {m : List Asrt} {dm : Nat} {e : SExit} {fr' : List (Nat × XV)} {mem : List MI} {win : List (Nat × List XV)} {c : Cnt} {mks : List Nat} {t : Ct} (ρ' : Va) (hq : popChk C.P fn C.nt N C.c0 p e (symM (ofPairs fr') mem win c mks) t = true)
    (hf : fr'.map (fun x => (x.1, x.2.sv ρ')) = fr.map fun x => (x.1, x.2.sv ρ)) (hm : memD ρ' mem = own dm (.deferred true) :: m) (hmk : dm :: C.ms = mks.map ρ'.n) (hw : ∀ x ∈ win, PtrTo C.Γ Z (ρ'.r x.1) (svL ρ' x.2)) (hd : den (C.mark dm) t c ρ' Z) : GoOnP C ρ Z p fr m dm e := fun _ _ hk => goOn hroot hk ρ' hq hf hm hmk hw hd
theorem gx_rangeP {α β : Type} {p : List Nat} {mem : List MI} {c : Cnt} {f : FuncId} {xs ys : List SV} {n : Nat} {args : Nat → List SV} {G : Nat → List Asrt} {la lb : List Asrt} (hro : C.ro = none) (hk : rThere C.c0 p = true) (gi : Nat) (gv : XV) (hgi : rG (rAt C.c0 p) = .tmp gi) (hgv : gv.sv ρ = .func (.func f) xs ys)
    (hseq : SeqP C.P C.Γ f xs ys n args G la lb) (m0 : List Asrt) (fJ : α → List Asrt) (inv : Nat → α → Prop) (e : SExit) (he : (jumpOf e).isNone = false) (fQ : β → List Asrt) (qinv : β → Prop)
    (hst : ∀ l h, St Z (memD ρ mem ++ l) h → St Z (la ++ (lb ++ (m0 ++ l))) h) (h0 : ∀ Z l h, St Z (lb ++ (m0 ++ l)) h → ∃ x, inv 0 x ∧ St Z (fJ x ++ l) h)
    (hrd : ∀ k, k < n → ∀ x, inv k x → ∀ Z B l tm, (∀ x ∈ (gi, gv) :: fr, Fr.ev ⟨tm, C.nt, []⟩ (.tmp x.1) = x.2.sv ρ) → RndOk C.P C.Γ Z (rPs (rAt C.c0 p)) (rAsg (rAt C.c0 p)) (rBody (rAt C.c0 p)) C.nt tm (args k) (G k ++ fJ x) fJ (inv (k + 1)) e fQ qinv B l)
    (h1 : ∀ Z x, inv n x → ∀ dm, GoOnP C ρ Z p ((gi, gv) :: fr) (la ++ fJ x) dm .normal) (h2 : ∀ Z x, qinv x → ∀ dm, GoOnP C ρ Z p ((gi, gv) :: fr) (la ++ fQ x) dm e) : den C (.stop p ((gi, gv) :: fr) mem) c ρ Z := by
  obtain ⟨K, hk⟩ := rThere_ok hk
  exact gx_range hro hk (fun tm hs => by rw [hgi]; exact (hs _ (List.mem_cons_self ..)).trans hgv) hseq m0 fJ inv e he fQ qinv hst h0 hrd (fun Z x hx dm => h1 Z x hx dm _ _ hk) (fun Z x hx dm => h2 Z x hx dm _ _ hk)
end
def loopC (P : Program) (fn : Option Func) (c0 : Code) (nt n : Nat) (p : List Nat) (S : Sym) (t : Ct) : Bool := match kat c0 p with
  | some (K, .loop b) => chk P fn nt n (.run b) ((0, .loop b) :: K) S t
  | _ => false
theorem gx_loop {C : Cx} [Mute C.Γ] {fn : Option Func} {Z : Hp} {ρ : Va} (hroot : ∀ f, fn = some f → C.Φ = fun o => ∃ r, leave C.P C.Γ f o = some [r] ∧ C.Post r.v r.hp) (p : List Nat) (fr : List (Nat × XV)) (mem : List MI) (win : List (Nat × List XV)) (c : Cnt) (mks : List Nat) (t : Ct) (n : Nat) (hq : loopC C.P fn C.c0 C.nt n p (symM (ofPairs fr) mem win c mks) t = true) (hmk : C.ms = mks.map ρ.n) (hw : ∀ x ∈ win, PtrTo C.Γ Z (ρ.r x.1) (svL ρ x.2)) (hd : den C t c ρ Z) : den C (.stop p fr mem) c ρ Z := by
  intro K c' hk tm h hf hs
  unfold loopC at hq
  rw [hk] at hq
  have hkk := kat_dirs hk
  cases c' with
  | loop b => exact runs_loop (chk_sound (C := C) (fn := fn) hroot n (.run b) ((0, .loop b) :: K) _ t hq ρ Z tm h hd ⟨ofPairs_ok hf, hs, fun x hx => (by cases hx), hw, hmk⟩ (KOk.down (C := C) (c' := b) (d := 0) hkk rfl))
  | _ => cases hq
theorem fnC_root {P : Program} {Γ : Glob} {f : Func} {n : Nat} {ms : List Nat} {l : List Asrt} {Post : SV → Hp → Prop} : ∀ f', some f = some f' → (fnC P Γ f n ms l Post).Φ = fun o => ∃ r, leave P Γ f' o = some [r] ∧ Post r.v r.hp := fun _ hf => by obtain rfl := Option.some.inj hf; rfl
open Go Go.Proofs.YtdhmljjpiainnaaGreatDoor.Ev
section
variable {C : Cx} {c d d' : Cnt} {ρ : Va} {Z : Hp} {t t' : Ct}
end
section
variable {P : Program} {Z h : Hp} {l : List Asrt} {s : List UInt8}
end
open Go Go.Proofs.YtdhmljjpiainnaaGreatDoor.Ev
@[simp] theorem tFrom_n (l : List UInt8) (i : Int) : (tFrom l i).length = l.length - i.toNat := by rw [tFrom, List.length_drop]
@[simp] theorem tTo_n (l : List UInt8) (i : Int) : (tTo l i).length = min i.toNat l.length := by rw [tTo, List.length_take]
@[simp] theorem tSub_n (l : List UInt8) (i j : Int) : (tSub l i j).length = min (j.toNat - i.toNat) (l.length - i.toNat) := by rw [tSub, List.length_take, List.length_drop]
@[simp] theorem lset_n {α : Type} (l : List α) (i : Int) (x : α) : (lset l i x).length = l.length := List.length_set ..
section
variable {P : Program} {Γ : Glob} {Z h : Hp} {m : List Asrt} {e : TypeId} {size : Nat} {v : SV} {l : List (List SV)}
theorem flat_set : ∀ {l : List (List SV)} {j : Nat} {x y : List SV}, (∀ z ∈ l, z.length = size) → l[j]? = some x → y.length = size → (l.set j y).flatten = l.flatten.take (j * size) ++ y ++ l.flatten.drop (j * size + size)
  | [], _, _, _, _, h, _ => by simp at h
  | a :: l, 0, x, y, hl, h, hy => by
    have ha := hl a (List.mem_cons_self ..)
    simp only [List.set_cons_zero, List.flatten_cons, Nat.zero_mul, Nat.zero_add, List.take_zero, List.nil_append]
    rw [← ha, List.drop_left]
  | a :: l, j + 1, x, y, hl, h, hy => by
    have ha := hl a (List.mem_cons_self ..)
    have ih := flat_set (l := l) (j := j) (x := x) (y := y) (fun z hz => hl z (List.mem_cons_of_mem _ hz)) (by simpa using h) hy
    simp only [List.set_cons_succ, List.flatten_cons, ih]
    rw [show (j + 1) * size = a.length + j * size by rw [Nat.succ_mul, ha]; omega, show a.length + j * size + size = a.length + (j * size + size) by omega, List.take_append, List.drop_append]
    simp only [List.append_assoc]
    rw [List.take_of_length_le (show a.length ≤ a.length + j * size by omega), List.drop_eq_nil_of_le (show a.length ≤ a.length + (j * size + size) by omega)]
    simp only [Nat.add_sub_cancel_left, List.nil_append]
theorem drop_two {α : Type} (F : List α) {q n : Nat} (h : q ≤ n) : (F.take n).drop q ++ F.drop n = F.drop q := by
  rw [List.drop_take]
  conv => rhs; rw [← List.take_append_drop (n - q) (F.drop q), List.drop_drop, show q + (n - q) = n by omega]
theorem take_two {α : Type} (F : List α) (a k : Nat) : F.take a ++ (F.drop a).take k = F.take (a + k) := (List.take_add ..).symm
theorem list_store {t : TypeId} {j k : Nat} {x : List SV} {w : SV} (ht : tySize P t = some w.cells.length) (s : St Z (listA e size v l :: m) h) (hx : l[j]? = some x) (hk : k + w.cells.length ≤ size) (hone : w.cells.all SV.one = true) :
    ∃ H, storeE P h t (elP v (j * size + k)) w = some H ∧ h.next ≤ H.next ∧ St Z (listA e size v (l.set j (x.take k ++ w.cells ++ x.drop (k + w.cells.length))) :: m) H := by
  obtain ⟨hall, hh⟩ := st_list s
  have hxs := hall x (List.mem_of_getElem? hx)
  generalize hc : w.cells = c at ht hk hone ⊢
  generalize hy : x.take k ++ c ++ x.drop (k + c.length) = y
  have hyl : y.length = size := by
    rw [← hy]
    simp only [List.length_append, List.length_take, List.length_drop]
    omega
  have hyo : y.all SV.one = true := by
    rw [← hy]
    simp only [List.all_append, Bool.and_eq_true]
    refine ⟨⟨List.all_eq_true.2 fun z hz => List.all_eq_true.1 hxs.2 z (List.mem_of_mem_take hz), hone⟩, List.all_eq_true.2 fun z hz => List.all_eq_true.1 hxs.2 z (List.mem_of_mem_drop hz)⟩
  have hnew : ∀ z ∈ l.set j y, z.length = size ∧ z.all SV.one = true := fun z hz => by
    rcases List.mem_or_eq_of_mem_set hz with hz | rfl
    · exact hall z hz
    · exact ⟨hyl, hyo⟩
  have hlens := fun z hz => (hall z hz).1
  have hfl := flat_len hlens
  have hj := (List.getElem?_eq_some_iff.1 hx).1
  obtain ⟨f1, f2⟩ := flat_el hlens hx
  have hfs := flat_set (y := y) hlens hx hyl
  have hjs : (j + 1) * size ≤ l.length * size := Nat.mul_le_mul_right _ hj
  rw [Nat.succ_mul] at hjs
  -- the block's cells
  have key : ∀ cs : List SV, l.length * size ≤ cs.length → cs.take (l.length * size) = l.flatten → ∃ cs', splice cs (j * size + k) c = some cs' ∧ cs'.length = cs.length ∧ cs'.take ((l.set j y).length * size) = (l.set j y).flatten := fun cs hlen ht => by
    refine ⟨_, splice_of (by omega) hone, ?_, ?_⟩
    · simp only [List.length_append, List.length_take, List.length_drop]; omega
    · rw [List.length_set, hfs, ← ht]
      rw [ht]
      generalize hF : l.flatten = F at *
      generalize j * size = a at *
      generalize l.length * size = N at *
      have e1 : x.take k = (F.drop a).take k := by rw [← f1, List.take_take, Nat.min_eq_left (by omega)]
      have e2 : x.drop (k + c.length) ++ F.drop (a + size) = F.drop (a + (k + c.length)) := by
        rw [← f1, show F.drop (a + size) = (F.drop a).drop size by rw [List.drop_drop], show F.drop (a + (k + c.length)) = (F.drop a).drop (k + c.length) by rw [List.drop_drop]]
        exact drop_two _ (by omega)
      rw [← hy, e1, show F.take a ++ ((F.drop a).take k ++ c ++ x.drop (k + c.length)) ++ F.drop (a + size) = (F.take a ++ (F.drop a).take k) ++ c ++ (x.drop (k + c.length) ++ F.drop (a + size)) by simp only [List.append_assoc], e2, take_two, ← ht]
      rw [List.take_append, List.take_of_length_le (by simp only [List.length_append, List.length_take]; omega), List.take_take, Nat.min_eq_left (by omega), List.drop_take]
      simp only [List.length_append, List.length_take, Nat.min_eq_left (show a + k ≤ cs.length by omega), Nat.add_assoc]
  rcases hh with ⟨_, rfl, _⟩ | ⟨b, o, hb, hbn, ⟨cs, ⟨q, rfl, c1, c2, ho, hcs⟩ | ⟨q, rfl, c1, ho, hcs⟩, a4⟩, s'⟩
  · simp at hx
  · obtain rfl := Option.some.inj ho
    have hq : l.length * size ≤ q * size := Nat.mul_le_mul_right _ c1
    obtain ⟨cs', k1, k2, k3⟩ := key cs (by omega) a4
    refine ⟨h.upd b (.cells cs' e), ?_, Nat.le_refl _, list_st hnew (St.upd (l := []) s') ⟨cs', .inl ⟨q, by rw [List.length_set], by rw [List.length_set]; exact c1, c2, rfl, by rw [k2]; exact hcs⟩, k3⟩⟩
    simp only [storeE, ht, elP, hc, beqN rfl, cond_true, hb, Nat.zero_add, k1, Option.map_some]
  · obtain rfl := Option.some.inj ho
    obtain ⟨cs', k1, k2, k3⟩ := key cs hcs a4
    refine ⟨h.upd b (.row cs' e q b size), ?_, Nat.le_refl _, list_st hnew (St.upd (l := []) s') ⟨cs', .inr ⟨q, by rw [List.length_set], by rw [List.length_set]; exact c1, rfl, by rw [List.length_set, k2]; exact hcs⟩, k3⟩⟩
    simp only [storeE, ht, elP, hc, beqN rfl, cond_true, hb, Nat.zero_add, k1, Option.map_some]
end
section
variable {P : Program} {Γ : Glob} {Z h : Hp} {m : List Asrt} {e : TypeId} {size : Nat} {v : SV} {α : Type} {enc : α → List SV} {L : List α}
theorem ls_set [Inhabited α] {t : TypeId} {i : Int} {w : SV} {y : α} (ht : tySize P t = some w.cells.length) (s : St Z (lsA e size enc v L :: m) h) (h0 : 0 ≤ i) (h1 : i < L.length) (hk : w.cells.length = size) (hone : w.cells.all SV.one = true) (hy : w.cells = enc y) :
    ∃ (_ : Unit) (H : Hp), unit (storeE P h t (oneS (elP v (i.toNat * size))) w) = some [(.lit undef, H)] ∧ h.next ≤ H.next ∧ True ∧ St Z (lsA e size enc v (lset L i y) :: m) H := by
  obtain ⟨H, h2, h3, h4⟩ := list_store (k := 0) ht s (lget_at h0 h1) (by omega) hone
  refine ⟨(), H, by rw [elP_same]; rw [Nat.add_zero] at h2; rw [h2]; rfl, h3, trivial, ?_⟩
  simp only [List.take_zero, List.nil_append, Nat.zero_add] at h4
  have hx := (st_list s).1 _ (List.mem_of_getElem? (lget_at (enc := enc) h0 h1))
  rw [List.drop_eq_nil_of_le (by omega), List.append_nil, hy] at h4
  simp only [lsA, lset, List.map_set]
  exact h4
end
end Go.Proofs.YtdhmljjpiainnaaGreatDoor.Sx
