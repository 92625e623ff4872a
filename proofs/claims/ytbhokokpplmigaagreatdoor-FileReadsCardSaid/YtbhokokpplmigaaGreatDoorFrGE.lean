/-
  A part of the proof of FileReads; no condition.
-/
import Derived.Test.YtbhokokpplmigaaGreatDoorEvGC
import Derived.Test.YtbhokokpplmigaaGreatDoorProg
import Derived.WalkKit
import Derived.RegionTactic
import Derived.Deep.RegionHeld3
import Derived.Deep.RegionWith
import Derived.Deep.QuietTactic
import Derived.BigQuiet
import Derived.KernelRfl
import Derived.Sort.Grow
import Derived.Lib.Small
set_option linter.all false
namespace Go.Proofs.YtbhokokpplmigaaGreatDoor.fr
open Go Go.RowKit Go.Lib Go.Sort
set_option maxHeartbeats 4000000
set_option maxRecDepth 20000
theorem Di(x:Int)(W:World):Calls Tryz.prog 183 #[.int .i64 x] W λe w'=>e=.returned (.bool false)/\w'=W:=by
 go_enter Tryz.func183,Tryz.ntmps183
 go_wp2
 all_goals go_ret
 exact⟨rfl,rfl⟩
theorem Eb(x y:Int)(W:World):Calls Tryz.prog 130 #[.int .i64 x,.int .i64 y] W λe w'=>e=.returned (.int .i64 (Lib.compareInt x y))/\w'=W:=by
 go_enter Tryz.func130,Tryz.ntmps130
 go_wp2_with (go_at_call 183;refine(Di _ _).mono ?_;rintro e w' ⟨rfl,rfl⟩)
 all_goals go_ret
 all_goals refine⟨?_,rfl⟩
 .have h:x<y:=by assumption
  rw[show Lib.compareInt x y= -1 by unfold Lib.compareInt;rw[if_pos h]];rfl
 .have h:y<x:=by assumption
  rw[show Lib.compareInt x y=1 by unfold Lib.compareInt;rw[if_neg (by omega),if_pos h]];rfl
 .have h1:y<=x:=by assumption
  have h2:x<=y:=by assumption
  rw[show Lib.compareInt x y=0 by unfold Lib.compareInt;rw[if_neg (by omega),if_neg (by omega)]];rfl
theorem zw(w:World)(cs:Array Value)(e:TypeId)(n k:Nat)(hn:n=w.heap.size):(w.alloc (.cells cs e)).drew.cell? ⟨n,k,none⟩=cs[k]? :=by
 subst hn;have h:(w.alloc (.cells cs e)).drew.heap[w.heap.size]? =some (.cells cs e (0,0)):=by
  show(w.heap.push _)[w.heap.size]? =_;exact Array.getElem?_push_size
 unfold World.cell?;rw[h];rfl
theorem Bn(w:World)(cs:Array Value)(e:TypeId)(n k:Nat)(hn:n=w.heap.size):(w.alloc (.cells cs e)).cell? ⟨n,k,none⟩=cs[k]? :=by
 subst hn;have h:(w.alloc (.cells cs e)).heap[w.heap.size]? =some (.cells cs e (0,0)):=by
  show(w.heap.push _)[w.heap.size]? =_;exact Array.getElem?_push_size
 unfold World.cell?;rw[h];rfl
theorem yN(b:Nat)(x y:Int)(W:World)(hx:W.cell? ⟨b,0,none⟩=some (.int .i64 x))(hy:W.cell? ⟨b,1,none⟩=some (.int .i64 y)):
 Calls Tryz.prog 82 #[.slice (some ⟨b,0,none⟩) 2 2] W λe w'=>e=.returned (.int .i64 (or2 x y))/\w'=W:=by
 go_enter Tryz.func82,Tryz.ntmps82
 go_wp2
 go_loop [8] (λi=>∃k:Nat,k<=2/\i=.int .i64 k/\(1<=k->x=0)/\(2<=k->y=0))
  (λi=>2-(intOf i).toNat)
 case atStart=>exact⟨0,by omega,rfl,by omega,by omega⟩
 case round=>
  obtain⟨k,hk,rfl,h1,h2⟩:=hrel;rcases(show k=0\/k=1\/k=2 by omega)with rfl|rfl|rfl
  .go_wp2
   .have h0:x≠0:=by simpa using(by assumption:(x != 0)=true)
    go_ret
    exact⟨by rw[or2,if_neg h0];rfl,rfl⟩
   .have h0:x=0:=by simpa using(by assumption:(x != 0)=false)
    exact⟨⟨1,by omega,rfl,λ_=>h0,by omega⟩,by decide⟩
  .have hx0:x=0:=h1 (Nat.le_refl _)
   go_wp2
   .go_ret
    exact⟨by rw[or2,if_pos rfl];rfl,rfl⟩
   .have h0:y=0:=by simpa using(by assumption:(y != 0)=false)
    exact⟨⟨2,by omega,rfl,λ_=>hx0,λ_=>h0⟩,by decide⟩
  .go_wp2
   go_ret
   exact⟨rfl,rfl⟩
theorem NB(W:World)(cs:Array Value)(e:TypeId)(x y:Int)(n:Nat)(hn:n=W.heap.size)(hx:cs[0]? =some (.int .i64 x))(hy:cs[1]? =some (.int .i64 y)):
 Calls Tryz.prog 82 #[.slice (some ⟨n,0,none⟩) 2 2] (W.alloc (.cells cs e)).drew λe' w'=>e'=.returned (.int .i64 (or2 x y))/\w'=(W.alloc (.cells cs e)).drew:=
 yN _ _ _ _ ((zw _ _ _ _ 0 hn).trans hx) ((zw _ _ _ _ 1 hn).trans hy)
theorem N6(W:World)(cs:Array Value)(e:TypeId)(x y:Int)(n:Nat)(hn:n=W.heap.size)(hx:cs[0]? =some (.int .i64 x))(hy:cs[1]? =some (.int .i64 y)):
 Calls Tryz.prog 82 #[.slice (some ⟨n,0,none⟩) 2 2] (W.alloc (.cells cs e)) λe' w'=>e'=.returned (.int .i64 (or2 x y))/\w'=(W.alloc (.cells cs e)):=
 yN _ _ _ _ ((Bn _ _ _ _ 0 hn).trans hx) ((Bn _ _ _ _ 1 hn).trans hy)
set_option maxHeartbeats 1000000 in
theorem DF(a1 a2 b1 b2:Int)(W:World):Calls Tryz.prog 83 #[.agg #[.int .i64 a1,.int .i64 a2],.agg #[.int .i64 b1,.int .i64 b2]] W λe w'=>e=.returned (.int .i64 (or2 (Lib.compareInt a2 b2) (Lib.compareInt a1 b1)))/\∃q os',w'=grow (W.drewN q) os':=by
 go_enter Tryz.func83,Tryz.ntmps83
 go_wp2
 go_region_held3 (λw'=>w'.cell? ⟨W.heap.size,0,none⟩=some (.int .i64 a1)/\w'.cell? ⟨W.heap.size,1,none⟩=some (.int .i64 a2)/\w'.cell? ⟨W.heap.size+1,0,none⟩=some (.int .i64 b1)/\w'.cell? ⟨W.heap.size+1,1,none⟩=some (.int .i64 b2)) (go_keep)
  (first|(go_at_call 130;refine(Eb _ _ _).mono ?_;rintro e w' ⟨rfl,rfl⟩)|(go_at_call 82;refine(NB _ #[.int .i64 (Lib.compareInt a2 b2),.int .i64 (Lib.compareInt a1 b1)] 3 (Lib.compareInt a2 b2) (Lib.compareInt a1 b1) _ ?_ rfl rfl).mono ?_;(simp only[World.size_alloc]);rintro e w' ⟨rfl,rfl⟩))
 all_goals go_wp2
 all_goals go_ret
 all_goals exact⟨rfl,1,_,by rw[alloc_eq_grow,alloc_eq_grow,alloc_eq_grow,grow_grow,grow_grow];rfl⟩
theorem i6(w:World)(n:Nat)(os:Array Obj):(grow w os).drewN n=grow (w.drewN n) os:=rfl
theorem EC(w:World)(a b:Nat):(w.drewN a).drewN b=w.drewN (a+b):=by
 show({w with drawn:=w.drawn+a+b}:World)={w with drawn:=w.drawn+(a+b)};rw[Nat.add_assoc]
theorem cell_grown{w:World}{a:Addr}{v:Value}{q:Nat}{os:Array Obj}(h:w.cell? a=some v):(grow (w.drewN q) os).cell? a=some v:=by
 unfold World.cell? at h⊢;have hh:(grow (w.drewN q) os).heap[a.block]? =w.heap[a.block]? :=by
  have hb:a.block<w.heap.size:=by
   cases e:w.heap[a.block]? with
   |none=>rw[e]at h;cases h
   |some o=>exact(Array.getElem?_eq_some_iff.1 e).1
  show(w.heap++os)[a.block]? =_;exact Array.getElem?_append_left hb
 rw[hh];exact h
abbrev W2(w:World)(a1 a2 a3 a4 b1 b2 b3 b4:Int):World:=(w.alloc (.cells #[.int .i64 a1,.int .i64 a2,.int .i64 a3,.int .i64 a4] 45)).alloc (.cells #[.int .i64 b1,.int .i64 b2,.int .i64 b3,.int .i64 b4] 45)
section
variable {a1 a2 a3 a4 b1 b2 b3 b4:Int}{n:Nat}{w:World}
theorem Dc{q:Nat}{os:Array Obj}(h:(w.cell? ⟨n,0,none⟩=some (.int .i64 a1)/\w.cell? ⟨n,1,none⟩=some (.int .i64 a2)/\w.cell? ⟨n,2,none⟩=some (.int .i64 a3)/\w.cell? ⟨n,3,none⟩=some (.int .i64 a4))/\w.cell? ⟨n+1,0,none⟩=some (.int .i64 b1)/\w.cell? ⟨n+1,1,none⟩=some (.int .i64 b2)/\w.cell? ⟨n+1,2,none⟩=some (.int .i64 b3)/\w.cell? ⟨n+1,3,none⟩=some (.int .i64 b4)):((grow (w.drewN q) os).cell? ⟨n,0,none⟩=some (.int .i64 a1)/\(grow (w.drewN q) os).cell? ⟨n,1,none⟩=some (.int .i64 a2)/\(grow (w.drewN q) os).cell? ⟨n,2,none⟩=some (.int .i64 a3)/\(grow (w.drewN q) os).cell? ⟨n,3,none⟩=some (.int .i64 a4))/\(grow (w.drewN q) os).cell? ⟨n+1,0,none⟩=some (.int .i64 b1)/\(grow (w.drewN q) os).cell? ⟨n+1,1,none⟩=some (.int .i64 b2)/\(grow (w.drewN q) os).cell? ⟨n+1,2,none⟩=some (.int .i64 b3)/\(grow (w.drewN q) os).cell? ⟨n+1,3,none⟩=some (.int .i64 b4):=
 ⟨⟨cell_grown h.1.1,cell_grown h.1.2.1,cell_grown h.1.2.2.1,cell_grown h.1.2.2.2⟩,cell_grown h.2.1,cell_grown h.2.2.1,cell_grown h.2.2.2.1,cell_grown h.2.2.2.2⟩
theorem fi{a:Addr}{v:Value}{o:Obj}(h:w.cell? a=some v):(w.alloc o).cell? a=some v:=by
 have:=cell_grown (q:=0) (os:=#[o]) h;rw[alloc_eq_grow];exact this
theorem Av{o:Obj}(h:(w.cell? ⟨n,0,none⟩=some (.int .i64 a1)/\w.cell? ⟨n,1,none⟩=some (.int .i64 a2)/\w.cell? ⟨n,2,none⟩=some (.int .i64 a3)/\w.cell? ⟨n,3,none⟩=some (.int .i64 a4))/\w.cell? ⟨n+1,0,none⟩=some (.int .i64 b1)/\w.cell? ⟨n+1,1,none⟩=some (.int .i64 b2)/\w.cell? ⟨n+1,2,none⟩=some (.int .i64 b3)/\w.cell? ⟨n+1,3,none⟩=some (.int .i64 b4)):((w.alloc o).cell? ⟨n,0,none⟩=some (.int .i64 a1)/\(w.alloc o).cell? ⟨n,1,none⟩=some (.int .i64 a2)/\(w.alloc o).cell? ⟨n,2,none⟩=some (.int .i64 a3)/\(w.alloc o).cell? ⟨n,3,none⟩=some (.int .i64 a4))/\(w.alloc o).cell? ⟨n+1,0,none⟩=some (.int .i64 b1)/\(w.alloc o).cell? ⟨n+1,1,none⟩=some (.int .i64 b2)/\(w.alloc o).cell? ⟨n+1,2,none⟩=some (.int .i64 b3)/\(w.alloc o).cell? ⟨n+1,3,none⟩=some (.int .i64 b4):=
 ⟨⟨fi h.1.1,fi h.1.2.1,fi h.1.2.2.1,fi h.1.2.2.2⟩,fi h.2.1,fi h.2.2.1,fi h.2.2.2.1,fi h.2.2.2.2⟩
theorem JP(h:(w.cell? ⟨n,0,none⟩=some (.int .i64 a1)/\w.cell? ⟨n,1,none⟩=some (.int .i64 a2)/\w.cell? ⟨n,2,none⟩=some (.int .i64 a3)/\w.cell? ⟨n,3,none⟩=some (.int .i64 a4))/\w.cell? ⟨n+1,0,none⟩=some (.int .i64 b1)/\w.cell? ⟨n+1,1,none⟩=some (.int .i64 b2)/\w.cell? ⟨n+1,2,none⟩=some (.int .i64 b3)/\w.cell? ⟨n+1,3,none⟩=some (.int .i64 b4)):(w.drew.cell? ⟨n,0,none⟩=some (.int .i64 a1)/\w.drew.cell? ⟨n,1,none⟩=some (.int .i64 a2)/\w.drew.cell? ⟨n,2,none⟩=some (.int .i64 a3)/\w.drew.cell? ⟨n,3,none⟩=some (.int .i64 a4))/\w.drew.cell? ⟨n+1,0,none⟩=some (.int .i64 b1)/\w.drew.cell? ⟨n+1,1,none⟩=some (.int .i64 b2)/\w.drew.cell? ⟨n+1,2,none⟩=some (.int .i64 b3)/\w.drew.cell? ⟨n+1,3,none⟩=some (.int .i64 b4):=h
theorem DP:((W2 w a1 a2 a3 a4 b1 b2 b3 b4).cell? ⟨w.heap.size,0,none⟩=some (.int .i64 a1)/\(W2 w a1 a2 a3 a4 b1 b2 b3 b4).cell? ⟨w.heap.size,1,none⟩=some (.int .i64 a2)/\(W2 w a1 a2 a3 a4 b1 b2 b3 b4).cell? ⟨w.heap.size,2,none⟩=some (.int .i64 a3)/\(W2 w a1 a2 a3 a4 b1 b2 b3 b4).cell? ⟨w.heap.size,3,none⟩=some (.int .i64 a4))/\(W2 w a1 a2 a3 a4 b1 b2 b3 b4).cell? ⟨w.heap.size+1,0,none⟩=some (.int .i64 b1)/\(W2 w a1 a2 a3 a4 b1 b2 b3 b4).cell? ⟨w.heap.size+1,1,none⟩=some (.int .i64 b2)/\(W2 w a1 a2 a3 a4 b1 b2 b3 b4).cell? ⟨w.heap.size+1,2,none⟩=some (.int .i64 b3)/\(W2 w a1 a2 a3 a4 b1 b2 b3 b4).cell? ⟨w.heap.size+1,3,none⟩=some (.int .i64 b4):=by
 have e1:∀k:Nat,k<4->(W2 w a1 a2 a3 a4 b1 b2 b3 b4).cell? ⟨w.heap.size,k,none⟩=#[Value.int .i64 a1,.int .i64 a2,.int .i64 a3,.int .i64 a4][k]? :=λk hk=>by
  unfold World.cell?;have h:(W2 w a1 a2 a3 a4 b1 b2 b3 b4).heap[w.heap.size]? =some (.cells #[Value.int .i64 a1,.int .i64 a2,.int .i64 a3,.int .i64 a4] 45 (0,0)):=by
   show((w.heap.push _).push _)[w.heap.size]? =_;rw[Array.getElem?_push_lt (by simp),Array.getElem_push_eq]
  rw[h];rfl
 have e2:∀k:Nat,(W2 w a1 a2 a3 a4 b1 b2 b3 b4).cell? ⟨w.heap.size+1,k,none⟩=#[Value.int .i64 b1,.int .i64 b2,.int .i64 b3,.int .i64 b4][k]? :=λk=>by
  unfold World.cell?;have h:(W2 w a1 a2 a3 a4 b1 b2 b3 b4).heap[w.heap.size+1]? =some (.cells #[Value.int .i64 b1,.int .i64 b2,.int .i64 b3,.int .i64 b4] 45 (0,0)):=by
   show((w.heap.push _).push _)[w.heap.size+1]? =_;have:w.heap.size+1=(w.heap.push (Obj.cells #[Value.int .i64 a1,.int .i64 a2,.int .i64 a3,.int .i64 a4] 45 (0,0))).size:=by simp
   rw[this,Array.getElem?_push_size]
  rw[h];rfl
 exact⟨⟨e1 0 (by omega),e1 1 (by omega),e1 2 (by omega),e1 3 (by omega)⟩,e2 0,e2 1,e2 2,e2 3⟩
end
theorem xB(a1 a2 a3 a4 b1 b2 b3 b4:Int)(W:World):Calls Tryz.prog 48 #[.agg #[.int .i64 a1,.int .i64 a2,.int .i64 a3,.int .i64 a4],.agg #[.int .i64 b1,.int .i64 b2,.int .i64 b3,.int .i64 b4]] W λe w'=>e=.returned (.int .i64 (or2 (or2 (Lib.compareInt a2 b2) (Lib.compareInt a1 b1)) (or2 (Lib.compareInt a4 b4) (Lib.compareInt a3 b3))))/\∃q os',w'=grow (W.drewN q) os':=by
 have hb:=@DP a1 a2 a3 a4 b1 b2 b3 b4 W
 go_enter Tryz.func48,Tryz.ntmps48
 go_wp2
 go_region_held3 (λw'=>(w'.cell? ⟨W.heap.size,0,none⟩=some (.int .i64 a1)/\w'.cell? ⟨W.heap.size,1,none⟩=some (.int .i64 a2)/\w'.cell? ⟨W.heap.size,2,none⟩=some (.int .i64 a3)/\w'.cell? ⟨W.heap.size,3,none⟩=some (.int .i64 a4))/\w'.cell? ⟨W.heap.size+1,0,none⟩=some (.int .i64 b1)/\w'.cell? ⟨W.heap.size+1,1,none⟩=some (.int .i64 b2)/\w'.cell? ⟨W.heap.size+1,2,none⟩=some (.int .i64 b3)/\w'.cell? ⟨W.heap.size+1,3,none⟩=some (.int .i64 b4)) (repeat(first|(with_reducible exact hb)|(with_reducible apply Dc)|(with_reducible apply Av)|(with_reducible apply JP)|(with_reducible apply held_drew)))
  (first|(go_at_call 83;refine(DF _ _ _ _ _).mono ?_;rintro e w' ⟨rfl,q,os,rfl⟩)|(go_at_call 82;refine(N6 _ #[.int .i64 (or2 (Lib.compareInt a2 b2) (Lib.compareInt a1 b1)),.int .i64 (or2 (Lib.compareInt a4 b4) (Lib.compareInt a3 b3))] 3 (or2 (Lib.compareInt a2 b2) (Lib.compareInt a1 b1)) (or2 (Lib.compareInt a4 b4) (Lib.compareInt a3 b3)) _ ?_ rfl rfl).mono ?_;(simp only[World.size_alloc,Go.Sort.size_grow,show ∀(w:World) (n:Nat),(w.drewN n).heap.size=w.heap.size from λ_ _=>rfl]);rintro e w' ⟨rfl,rfl⟩))
 all_goals go_wp2
 all_goals go_ret
 all_goals refine⟨rfl,?_⟩
 all_goals rw[alloc_eq_grow,alloc_eq_grow,alloc_eq_grow]
 all_goals exact⟨_,_,by rw[i6,i6,i6,i6,i6,grow_grow,grow_grow,grow_grow,grow_grow,EC]⟩
end Go.Proofs.YtbhokokpplmigaaGreatDoor.fr
