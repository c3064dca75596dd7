/- Worlds that extend a world by blocks of resources; each under its stated conditions. -/
import Derived.WalkKit
import Derived.Deep.Quiet
set_option linter.all false
namespace Go.Xw
open Go.RowKit
def Ext (w w':World):Prop:=Below w.heap.size w w'
theorem Ext.refl (w:World):Ext w w:=Below.refl _ _
theorem Ext.trans {a b c:World}(h:Ext a b)(k:Ext b c):Ext a c:=Below.trans h (k.mono h.size)
theorem Ext.alloc (w:World)(o:Obj):Ext w (w.alloc o):=(Below.refl _ _).alloc (Nat.le_refl _) o
theorem Ext.drawn (w:World):Ext w {w with drawn:=w.drawn+1}:=⟨rfl,rfl,rfl,Nat.le_refl _,fun _ _=>rfl⟩
theorem Ext.block {w w':World}(h:Ext w w'){k:Nat}{o:Obj}(hk:w.heap[k]?=some o):w'.heap[k]?=some o:=by
 rw[Below.block h k (Array.getElem?_eq_some_iff.1 hk).1];exact hk
theorem Ext.cell {w w':World}(h:Ext w w'){p:Addr}{v:Value}(hc:w.cell? p=some v):w'.cell? p=some v:=by
 rw[Below.cell h (World.block_lt_of_cell? w p hc)];exact hc
theorem Ext.frozen {w w':World}(h:Ext w w'){p:Addr}(hp:p.block<w.heap.size):w'.frozen? p=w.frozen? p:=Below.frozen h hp
theorem Ext.size {w w':World}(h:Ext w w'):w.heap.size<=w'.heap.size:=Below.size h
theorem Ext.grown {w w' zU:World}(h:Ext w w'){row:Option Nat}(hg:w'.grownBy zU row)(hr:∀k,row=some k->w.heap.size<=k):Ext w zU:=
 Below.grown h hg h.size hr
structure F7 (ids:List Nat)(w w':World):Prop where
 os:w'.os=w.os
 tape:w'.tape=w.tape
 output:w'.output=w.output
 size:w.heap.size<=w'.heap.size
 block:∀k,k<w.heap.size->k∉ids->w'.heap[k]?=w.heap[k]?
structure bh where
 ids:List Nat
 P:World->Prop
 st:∀{w w':World},(∀k,k∈ids->w'.heap[k]?=w.heap[k]?)->P w->P w'
 lt:∀{w:World},P w->∀k,k∈ids->k<w.heap.size
structure Hp (w0 w:World)(L:List bh):Prop where
 x:Ext w0 w
 nd:(L.flatMap bh.ids).Nodup
 lo:∀k,k∈L.flatMap bh.ids->w0.heap.size<=k
 h:∀R,R∈L->R.P w
theorem jN {α β:Type}{f:α->List β}:∀{l l':List α},l.Sublist l'->(l.flatMap f).Sublist (l'.flatMap f)
 |_,_,.slnil=> .slnil
 |_,_,.cons a h=>by rw[List.flatMap_cons];exact(jN h).trans (List.sublist_append_right _ _)
 |_,_,.cons_cons a h=>by rw[List.flatMap_cons,List.flatMap_cons];exact(jN h).append_left _
theorem Hp.nil (w:World):Hp w w []:=⟨Ext.refl _,by simp,by simp,by simp⟩
theorem Hp.sy {w0 w:World}(h:Ext w0 w):Hp w0 w []:=⟨h,by simp,by simp,by simp⟩
section
variable {w0 w w':World} {L L' M:List bh} {R R' R1 R2 A B C D E F G H:bh}
theorem Hp.lts (h:Hp w0 w L):∀k,k∈L.flatMap bh.ids->k<w.heap.size:=fun k hk=>by
 obtain⟨R,hR,hk⟩:=List.mem_flatMap.1 hk
 exact R.lt (h.h R hR) k hk
theorem Hp.perm (h:Hp w0 w L)(hp:L.Perm L'):Hp w0 w L':=
 ⟨h.x,(hp.flatMap_right _).nodup_iff.1 h.nd,fun k hk=>h.lo k ((hp.flatMap_right _).mem_iff.2 hk),fun R hR=>h.h R (hp.mem_iff.2 hR)⟩
theorem Hp.sub (h:Hp w0 w L)(hs:L'.Sublist L):Hp w0 w L':=
 ⟨h.x,h.nd.sublist (jN hs),fun k hk=>h.lo k ((jN hs).subset hk),fun R hR=>h.h R (hs.subset hR)⟩
theorem Hp.drop (h:Hp w0 w (R::L)):Hp w0 w L:=h.sub (List.sublist_cons_self _ _)
theorem Hp.ext (h:Hp w0 w L)(hx:Ext w w'):Hp w0 w' L:=
 ⟨h.x.trans hx,h.nd,h.lo,fun R hR=>R.st (fun k hk=>Below.block hx k (R.lt (h.h R hR) k hk)) (h.h R hR)⟩
theorem Hp.call (h:Hp w0 w L)(hc:Hp w w' M):Hp w0 w' (M++L):=by
 have h2:=h.ext hc.x
 refine⟨h2.x,?_,fun k hk=> ?_,fun R hR=> ?_⟩
 ·rw[List.flatMap_append]
  exact List.nodup_append.2 ⟨hc.nd,h.nd,fun a ha b hb he=>by
   have h3:=hc.lo a ha
   have h4:=h.lts b hb
   omega⟩
 ·rw[List.flatMap_append,List.mem_append] at hk
  rcases hk with hk|hk
  ·exact Nat.le_trans h.x.size (hc.lo k hk)
  ·exact h.lo k hk
 ·rcases List.mem_append.1 hR with hR|hR
  ·exact hc.h R hR
  ·exact h2.h R hR
theorem Hp.bJ (h:Hp w0 w L)(hc:Hp w w' [R]):Hp w0 w' (R::L):=h.call hc
theorem Hp.call2 (h:Hp w0 w L)(hc:Hp w w' [R1,R2]):Hp w0 w' (R1::R2::L):=h.call hc
theorem Hp.trans (h:Hp w0 w [])(hc:Hp w w' L):Hp w0 w' L:=by
 have:=h.call hc
 rwa[List.append_nil] at this
theorem Hp.Tu (h:Hp w0 w (R::L))(hc:F7 R.ids w w')(hP:R'.P w')(hi:∀k,k∈R'.ids->k∈R.ids\/w.heap.size<=k)(hn:R'.ids.Nodup):Hp w0 w' (R'::L):=by
 have vv:=h.nd
 rw[List.flatMap_cons,List.nodup_append] at vv
 obtain⟨n1,n2,n3⟩:=vv
 have bD:=h.lts
 have F8:=h.lo
 simp only[List.flatMap_cons,List.mem_append] at bD F8
 refine⟨?_,?_,fun k hk=> ?_,fun Q hQ=> ?_⟩
 ·exact⟨hc.os.trans h.x.os,hc.tape.trans h.x.tape,hc.output.trans h.x.output,Nat.le_trans h.x.size hc.size,fun k hk=>by
   rw[hc.block k (Nat.lt_of_lt_of_le hk h.x.size) (fun hm=>by have:=F8 k (.inl hm);omega)]
   exact Below.block h.x k hk⟩
 ·rw[List.flatMap_cons]
  refine List.nodup_append.2 ⟨hn,n2,fun a ha b hb he=> ?_⟩
  subst he
  rcases hi a ha with hi|hi
  ·exact n3 a hi a hb rfl
  ·have:=bD a (.inr hb);omega
 ·simp only[List.flatMap_cons,List.mem_append] at hk
  rcases hk with hk|hk
  ·rcases hi k hk with hi|hi
   ·exact F8 k (.inl hi)
   ·exact Nat.le_trans h.x.size hi
  ·exact F8 k (.inr hk)
 ·rcases List.mem_cons.1 hQ with rfl|hQ
  ·exact hP
  ·have hq:∀k,k∈Q.ids->k∈L.flatMap bh.ids:=fun k hk=>List.mem_flatMap.2 ⟨Q,hQ,hk⟩
   exact Q.st (fun k hk=>hc.block k (bD k (.inr (hq k hk))) (fun hm=>n3 k hm k (hq k hk) rfl)) (h.h Q (List.mem_cons_of_mem _ hQ))
theorem Hp.f1 (h:Hp w0 w (A::R::L)):Hp w0 w (R::A::L):=h.perm (List.Perm.swap _ _ _)
theorem Hp.f2 (h:Hp w0 w (A::B::R::L)):Hp w0 w (R::A::B::L):=h.perm (List.perm_middle (l₁:=[A,B]))
theorem Hp.f3 (h:Hp w0 w (A::B::C::R::L)):Hp w0 w (R::A::B::C::L):=h.perm (List.perm_middle (l₁:=[A,B,C]))
theorem Hp.f4 (h:Hp w0 w (A::B::C::D::R::L)):Hp w0 w (R::A::B::C::D::L):=h.perm (List.perm_middle (l₁:=[A,B,C,D]))
theorem Hp.f5 (h:Hp w0 w (A::B::C::D::E::R::L)):Hp w0 w (R::A::B::C::D::E::L):=h.perm (List.perm_middle (l₁:=[A,B,C,D,E]))
theorem Hp.f6 (h:Hp w0 w (A::B::C::D::E::F::R::L)):Hp w0 w (R::A::B::C::D::E::F::L):=h.perm (List.perm_middle (l₁:=[A,B,C,D,E,F]))
theorem Hp.f7 (h:Hp w0 w (A::B::C::D::E::F::G::R::L)):Hp w0 w (R::A::B::C::D::E::F::G::L):=h.perm (List.perm_middle (l₁:=[A,B,C,D,E,F,G]))
theorem Hp.b1 (h:Hp w0 w (R::A::L)):Hp w0 w (A::R::L):=h.f1
theorem Hp.b2 (h:Hp w0 w (R::A::B::L)):Hp w0 w (A::B::R::L):=h.perm (List.perm_middle (l₁:=[A,B])).symm
theorem Hp.b3 (h:Hp w0 w (R::A::B::C::L)):Hp w0 w (A::B::C::R::L):=h.perm (List.perm_middle (l₁:=[A,B,C])).symm
theorem Hp.b4 (h:Hp w0 w (R::A::B::C::D::L)):Hp w0 w (A::B::C::D::R::L):=h.perm (List.perm_middle (l₁:=[A,B,C,D])).symm
theorem Hp.b5 (h:Hp w0 w (R::A::B::C::D::E::L)):Hp w0 w (A::B::C::D::E::R::L):=h.perm (List.perm_middle (l₁:=[A,B,C,D,E])).symm
theorem Hp.b6 (h:Hp w0 w (R::A::B::C::D::E::F::L)):Hp w0 w (A::B::C::D::E::F::R::L):=h.perm (List.perm_middle (l₁:=[A,B,C,D,E,F])).symm
theorem Hp.b7 (h:Hp w0 w (R::A::B::C::D::E::F::G::L)):Hp w0 w (A::B::C::D::E::F::G::R::L):=h.perm (List.perm_middle (l₁:=[A,B,C,D,E,F,G])).symm
theorem Hp.tk (h:Hp w0 w L)(n:Nat):Hp w0 w (L.take n):=h.sub (List.take_sublist n L)
theorem Hp.g0 (h:Hp w0 w (R::L)):R.P w:=h.h R (by simp)
theorem Hp.g1 (h:Hp w0 w (A::R::L)):R.P w:=h.h R (by simp)
theorem Hp.g2 (h:Hp w0 w (A::B::R::L)):R.P w:=h.h R (by simp)
theorem Hp.g3 (h:Hp w0 w (A::B::C::R::L)):R.P w:=h.h R (by simp)
theorem Hp.g4 (h:Hp w0 w (A::B::C::D::R::L)):R.P w:=h.h R (by simp)
theorem Hp.g5 (h:Hp w0 w (A::B::C::D::E::R::L)):R.P w:=h.h R (by simp)
theorem Hp.g6 (h:Hp w0 w (A::B::C::D::E::F::R::L)):R.P w:=h.h R (by simp)
end
def jZ (w:World)(b:Nat)(t:TypeId)(cs:List Value):Prop:=w.heap[b]?=some (.cells ⟨cs⟩ t (0,0))
theorem jZ.lt {w:World}{b:Nat}{t:TypeId}{cs:List Value}(h:jZ w b t cs):b<w.heap.size:=(Array.getElem?_eq_some_iff.1 h).1
theorem jZ.ext {w w':World}{b:Nat}{t:TypeId}{cs:List Value}(h:jZ w b t cs)(hx:Ext w w'):jZ w' b t cs:=hx.block h
theorem jZ.new (w:World)(t:TypeId)(cs:List Value):jZ (w.alloc (.cells ⟨cs⟩ t)) w.heap.size t cs:=heap_alloc_new w _
def rB (b:Nat)(t:TypeId)(cs:List Value):bh where
 ids:=[b]
 P w:=jZ w b t cs
 st:=fun h hb=>by unfold jZ at hb⊢;rw[h _ (by simp)];exact hb
 lt:=fun hb k hk=>by simp at hk;subst hk;exact hb.lt
section
variable {w0 w w':World} {L:List bh}
theorem Hp.Ls {b:Nat}{t:TypeId}{cs w9:List Value}(h:Hp w0 w (rB b t cs::L))(e:cs=w9):Hp w0 w (rB b t w9::L):=e▸h
theorem Hp.IW {b:Nat}{t:TypeId}{cs:List Value}(h:Hp w0 w L)(hb:b=w.heap.size)(hx:Ext w w')(hk:jZ w' b t cs):Hp w0 w' (rB b t cs::L):=
 h.bJ ⟨hx,by simp[rB],fun k hk=>by simp[rB] at hk;omega,fun R hR=>by simp at hR;subst hR;exact hk⟩
end
end Go.Xw
