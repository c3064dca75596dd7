/- Expressions: the program's adder and the reference's give the same net and literals, or both have no room; plain data, no condition but the stated ones. -/
import Derived.Test.YtiepmliokblkjaaGreatExprLaw
set_option linter.all false
namespace Go.Xw
open Go.Proofs
set_option maxHeartbeats 1000000
section
variable {σ:Type} (A:Ad σ)
theorem dH (f:σ->Int->Int->σ×Int)(s:σ)(a b:List Int):∀k,(bC f s a b k).2.length=k
 |0=>rfl
 |k+1=>by rw[bC,List.length_append,dH f s a b k];rfl
theorem jV (s:σ)(a b:List Int)(c:Int):∀k,(bU A s a b c k).2.1.length=k
 |0=>rfl
 |k+1=>by
  have ih:=jV s a b c k
  unfold bU
  split
  ·rw[List.length_append,ih];rfl
  ·rw[List.length_append,ih];rfl
theorem uU (sig:List (List Int))(w:Nat)(o:dK):(tN sig w o).length=w:=by simp[tN]
theorem JD {w:Nat}(kind:Int)(s:σ){a b:List Int}(ha:a.length=w):(gO A w kind s a b).2.length=w:=by
 unfold gO
 split
 ·exact(jV A s a b _ _).trans ha
 split
 ·exact(jV A s a _ _ _).trans ha
 split
 ·simp[ll]
 split
 ·simp[ll]
 split
 ·exact(dH _ s a b _).trans ha
 split
 ·exact(dH _ s a b _).trans ha
 ·exact(dH _ s a b _).trans ha
theorem cv (sig:List (List Int))(w:Nat):∀(t:cI) (s:σ),(dD A sig w t s).2.length=w
 | .leaf o,s=>uU sig w o
 | .un o x,s=>by show((dD A sig w x s).2.map A.not).length=w;rw[List.length_map];exact cv sig w x s
 | .bin o x y,s=>JD A _ _ (cv sig w x s)
 | .nS o x y z,s=>(dH _ _ _ _ _).trans (cv sig w y _)
structure Mm (I:σ->Prop)(V:σ->Int->Prop)(le:σ->σ->Prop):Prop where
 refl:∀s,le s s
 trans:∀{a b c},le a b->le b c->le a c
 mono:∀{s s' z},le s s'->V s z->V s' z
 zero:∀s,I s->V s 0
 one:∀s,I s->V s 1
 and:∀{s a b},I s->V s a->V s b->I (A.and s a b).1/\V (A.and s a b).1 (A.and s a b).2/\le s (A.and s a b).1
 or:∀{s a b},I s->V s a->V s b->I (A.or s a b).1/\V (A.or s a b).1 (A.or s a b).2/\le s (A.or s a b).1
 xor:∀{s a b},I s->V s a->V s b->I (A.xor s a b).1/\V (A.xor s a b).1 (A.xor s a b).2/\le s (A.xor s a b).1
 jk:∀{s c a b},I s->V s c->V s a->V s b->I (A.jk s c a b).1/\V (A.jk s c a b).1 (A.jk s c a b).2/\le s (A.jk s c a b).1
 not:∀{s a},I s->V s a->V s (A.not a)
variable {A} {I:σ->Prop} {V:σ->Int->Prop} {le:σ->σ->Prop} (H:Mm A I V le)
structure Gd (I:σ->Prop)(V:σ->Int->Prop)(le:σ->σ->Prop)(s:σ)(r:σ×List Int):Prop where
 i:I r.1
 v:∀z,z∈r.2->V r.1 z
 dX:le s r.1
include H
theorem cZ {s:σ}{a:List Int}(hI:I s)(ha:∀z,z∈a->V s z)(k:Nat):V s (a.getD k default):=by
 by_cases h:k<a.length
 ·exact ha _ (aK h)
 ·rw[List.getD_eq_getElem?_getD,List.getElem?_eq_none (by omega)]
  exact H.zero s hI
theorem fH {s:σ}{f:σ->Int->Int->σ×Int}(hf:∀s' x y,le s s'->I s'->V s' x->V s' y->I (f s' x y).1/\V (f s' x y).1 (f s' x y).2/\le s' (f s' x y).1){a b:List Int}(hI:I s)(ha:∀z,z∈a->V s z)(hb:∀z,z∈b->V s z):∀k,Gd I V le s (bC f s a b k)
 |0=>⟨hI,by simp[bC],H.refl s⟩
 |k+1=>by
  have ih:=fH hf hI ha hb k
  obtain⟨h1,h2,h3⟩:=hf _ _ _ ih.dX ih.i (H.mono ih.dX (cZ H hI ha k)) (H.mono ih.dX (cZ H hI hb k))
  refine⟨h1,fun z hz=> ?_,H.trans ih.dX h3⟩
  rcases List.mem_append.1 hz with hz|hz
  ·exact H.mono h3 (ih.v z hz)
  ·simp at hz;subst hz;exact h2
theorem oz {s:σ}{a b:List Int}{c:Int}(hI:I s)(ha:∀z,z∈a->V s z)(hb:∀z,z∈b->V s z)(hc:V s c):∀k,Gd I V le s ((bU A s a b c k).1,(bU A s a b c k).2.1)/\V (bU A s a b c k).1 (bU A s a b c k).2.2
 |0=>⟨⟨hI,by simp[bU],H.refl s⟩,hc⟩
 |k+1=>by
  obtain⟨ih,W4⟩:=oz hI ha hb hc k
  obtain⟨r,hr⟩:∃r,r=bU A s a b c k:=⟨_,rfl⟩
  rw[<-hr] at ih W4
  have va:=H.mono ih.dX (cZ H hI ha k)
  have vb:=H.mono ih.dX (cZ H hI hb k)
  obtain⟨x1,x2,x3⟩:=H.xor ih.i va vb
  obtain⟨y1,y2,y3⟩:=H.xor x1 x2 (H.mono x3 W4)
  have l1:=H.trans x3 y3
  obtain⟨p1,p2,p3⟩:=H.and y1 (H.mono l1 va) (H.mono l1 vb)
  have l2:=H.trans l1 p3
  obtain⟨q1,q2,q3⟩:=H.and p1 (H.mono (H.trans y3 p3) x2) (H.mono l2 W4)
  obtain⟨c1,c2,c3⟩:=H.or q1 (H.mono q3 p2) q2
  have l3:=H.trans (H.trans l2 q3) c3
  unfold bU
  rw[<-hr]
  split
  ·refine⟨⟨c1,fun z hz=> ?_,H.trans ih.dX l3⟩,c2⟩
   rcases List.mem_append.1 hz with hz|hz
   ·exact H.mono l3 (ih.v z hz)
   ·simp at hz;subst hz;exact H.mono (H.trans (H.trans p3 q3) c3) y2
  ·refine⟨⟨y1,fun z hz=> ?_,H.trans ih.dX l1⟩,H.mono l1 W4⟩
   rcases List.mem_append.1 hz with hz|hz
   ·exact H.mono l1 (ih.v z hz)
   ·simp at hz;subst hz;exact y2
theorem js (eq:Bool){s:σ}{a b:List Int}(hI:I s)(ha:∀z,z∈a->V s z)(hb:∀z,z∈b->V s z):∀k,I (bV A eq s a b k).1/\V (bV A eq s a b k).1 (bV A eq s a b k).2/\le s (bV A eq s a b k).1
 |0=>⟨hI,by unfold bV;cases eq;exact H.zero s hI;exact H.one s hI,H.refl s⟩
 |k+1=>by
  obtain⟨i1,i2,i3⟩:=js eq hI ha hb k
  have va:=H.mono i3 (cZ H hI ha k)
  have vb:=H.mono i3 (cZ H hI hb k)
  obtain⟨x1,x2,x3⟩:=H.xor i1 va vb
  unfold bV
  split
  ·obtain⟨y1,y2,y3⟩:=H.and x1 (H.mono x3 i2) (H.not x1 x2)
   exact⟨y1,y2,H.trans i3 (H.trans x3 y3)⟩
  ·obtain⟨y1,y2,y3⟩:=H.jk x1 x2 (H.mono x3 vb) (H.mono x3 i2)
   exact⟨y1,y2,H.trans i3 (H.trans x3 y3)⟩
theorem oA {s:σ}{a:List Int}(hI:I s)(ha:∀z,z∈a->V s z):∀k,I (di A s a k).1/\V (di A s a k).1 (di A s a k).2/\le s (di A s a k).1
 |0=>⟨hI,H.zero s hI,H.refl s⟩
 |k+1=>by
  obtain⟨i1,i2,i3⟩:=oA hI ha k
  obtain⟨y1,y2,y3⟩:=H.or i1 i2 (H.mono i3 (cZ H hI ha k))
  exact⟨y1,y2,H.trans i3 y3⟩
theorem Fa {s:σ}(hI:I s){w:Nat}{e:Int}(he:V s e):∀z,z∈ll w e->V s z:=fun z hz=>by
 rcases List.mem_or_eq_of_mem_set hz with hz|rfl
 ·rw[List.eq_of_mem_replicate hz];exact H.zero s hI
 ·exact he
theorem Dc {w:Nat}(kind:Int){s:σ}{a b:List Int}(hI:I s)(ha:∀z,z∈a->V s z)(hb:∀z,z∈b->V s z):Gd I V le s (gO A w kind s a b):=by
 unfold gO
 split
 ·exact(oz H hI ha hb (H.zero s hI) _).1
 split
 ·refine(oz H hI ha (fun z hz=> ?_) (H.one s hI) _).1
  obtain⟨y,hy,rfl⟩:=List.mem_map.1 hz
  exact H.not hI (hb y hy)
 split
 ·obtain⟨h1,h2,h3⟩:=js H true hI ha hb a.length
  exact⟨h1,Fa H h1 h2,h3⟩
 split
 ·obtain⟨h1,h2,h3⟩:=js H false hI ha hb a.length
  exact⟨h1,Fa H h1 h2,h3⟩
 split
 ·exact fH H (fun _ _ _ _ h1 h2 h3=>H.and h1 h2 h3) hI ha hb _
 split
 ·exact fH H (fun _ _ _ _ h1 h2 h3=>H.or h1 h2 h3) hI ha hb _
 ·exact fH H (fun _ _ _ _ h1 h2 h3=>H.xor h1 h2 h3) hI ha hb _
theorem Dd {s:σ}{a b c:List Int}(hI:I s)(ha:∀z,z∈a->V s z)(hb:∀z,z∈b->V s z)(hc:∀z,z∈c->V s z):Gd I V le s (sO A s a b c):=by
 obtain⟨h1,h2,h3⟩:=oA H hI ha a.length
 have g:=fH H (s:=(di A s a a.length).1) (f:=fun s' x y=>A.jk s' (di A s a a.length).2 x y) (fun s' x y hl hi hx hy=>H.jk hi (H.mono hl h2) hx hy) h1 (fun z hz=>H.mono h3 (hb z hz)) (fun z hz=>H.mono h3 (hc z hz)) b.length
 exact⟨g.i,g.v,H.trans h3 g.dX⟩
theorem JE {s:σ}(hI:I s){sig:List (List Int)}(hs:∀l,l∈sig->∀z,z∈l->V s z)(w:Nat){o:dK}:∀z,z∈tN sig w o->V s z:=fun z hz=>by
 obtain⟨k,_,rfl⟩:=List.mem_map.1 hz
 have hp:∀i k,V s (g7 (sig.getD i default) k):=fun i k=>by
  unfold g7
  by_cases h:i<sig.length
  ·by_cases hk:k<(sig.getD i default).length
   ·rw[List.getD_eq_getElem?_getD (l:=sig.getD i default),List.getElem?_eq_getElem hk]
    exact hs _ (aK h) _ (List.getElem_mem hk)
   ·rw[List.getD_eq_getElem?_getD (l:=sig.getD i default),List.getElem?_eq_none (by omega)]
    exact H.zero s hI
  ·rw[List.getD_eq_getElem?_getD (l:=sig),List.getElem?_eq_none (by omega)]
   exact H.zero s hI
 split
 ·have:o.a/2^k%2=0\/o.a/2^k%2=1:=by omega
  rcases this with h|h
  ·rw[h];exact H.zero s hI
  ·rw[h];exact H.one s hI
 split
 ·exact hp _ _
 split
 ·exact hp _ _
 ·exact H.zero s hI
theorem db {sig:List (List Int)}(w:Nat):∀(t:cI) {s:σ},I s->(∀l,l∈sig->∀z,z∈l->V s z)->Gd I V le s (dD A sig w t s)
 | .leaf o,s,hI,hs=>⟨hI,JE H hI hs w,H.refl s⟩
 | .un o x,s,hI,hs=>by
  have g:=db w x hI hs
  refine⟨g.i,fun z hz=> ?_,g.dX⟩
  obtain⟨y,hy,rfl⟩:=List.mem_map.1 hz
  exact H.not g.i (g.v y hy)
 | .bin o x y,s,hI,hs=>by
  have g1:=db w x hI hs
  have g2:=db w y g1.i (fun l hl z hz=>H.mono g1.dX (hs l hl z hz))
  have g3:=Dc H (w:=w) o.kind g2.i (fun z hz=>H.mono g2.dX (g1.v z hz)) g2.v
  exact⟨g3.i,g3.v,H.trans g1.dX (H.trans g2.dX g3.dX)⟩
 | .nS o x y z,s,hI,hs=>by
  have g1:=db w x hI hs
  have g2:=db w y g1.i (fun l hl z hz=>H.mono g1.dX (hs l hl z hz))
  have Ry:=H.trans g1.dX g2.dX
  have g3:=db w z g2.i (fun l hl z hz=>H.mono Ry (hs l hl z hz))
  have g4:=Dd H g3.i (fun z hz=>H.mono (H.trans g2.dX g3.dX) (g1.v z hz)) (fun z hz=>H.mono g3.dX (g2.v z hz)) g3.v
  exact⟨g4.i,g4.v,H.trans Ry (H.trans g3.dX g4.dX)⟩
end
def se (bad:Bool)(r:ao×Int):(ao×Bool)×Int:=if r.2<0 then((r.1,true),0) else((r.1,bad),r.2)
def a6:Ad (ao×Bool) where
 and s a b:=se s.2 (ay s.1 a b)
 or s a b:=se s.2 (cF s.1 a b)
 xor s a b:=se s.2 (de s.1 a b)
 jk s c a b:=se s.2 (dy s.1 c a b)
 not:=cS
noncomputable def bY:Ad ao where
 and n a b:=dG n [a,b] (ay n a b)
 or n a b:=dG n [a,b] (cF n a b)
 xor n a b:=dG n [a,b] (de n a b)
 jk n c a b:=dG n [c,a,b] (dy n c a b)
 not:=fb
def Ao (n n':ao):Prop:=ag n<=ag n'/\n'={n with af:=n'.af}
theorem Ao.refl (n:ao):Ao n n:=⟨Int.le_refl _,rfl⟩
theorem Ao.trans {a b c:ao}(h:Ao a b)(k:Ao b c):Ao a c:=⟨Int.le_trans h.1 k.1,by rw[k.2,h.2]⟩
def Rz (s s':ao×Bool):Prop:=Ao s.1 s'.1/\(s.2=true->s'.2=true)
theorem mO {n:ao}(h:aj n):aD 0 (ag n)/\aD 1 (ag n):=by
 have:=h.count
 unfold aD
 omega
theorem qE {n:ao}{bad:Bool}{r:ao×Int}(g:iv n r):aj (se bad r).1.1/\aD (se bad r).2 (ag (se bad r).1.1)/\Rz (n,bad) (se bad r).1:=by
 unfold se
 split
 ·exact⟨g.ok,(mO g.ok).1,⟨g.nodes,g.eq⟩,fun _=>rfl⟩
 ·rename_i h
  exact⟨g.ok,g.aD h,⟨g.nodes,g.eq⟩,fun h=>h⟩
theorem cG:Mm a6 (fun s=>aj s.1) (fun s z=>aD z (ag s.1)) Rz where
 refl s:=⟨Ao.refl _,id⟩
 trans h k:=⟨h.1.trans k.1,fun e=>k.2 (h.2 e)⟩
 mono h v:=v.mono h.1.1
 zero s h:=(mO h).1
 one s h:=(mO h).2
 and h a b:=qE (dw h a b)
 or h a b:=qE (tK h a b)
 xor h a b:=qE (tL h a b)
 jk h c a b:=qE (tM h c a b)
 not h a:=cN a (by have:=aj.count h;omega)
def lK (n:ao)(z:Int):Prop:=aD z (ag n)\/z= -1\/z= -2
theorem rj {n:ao}{lits:List Int}{r:ao×Int}(hn:aj n)(g:(∀l,l∈lits->aD l (ag n))->iv n r):aj (dG n lits r).1/\lK (dG n lits r).1 (dG n lits r).2/\Ao n (dG n lits r).1:=by
 by_cases h:aj n/\∀l,l∈lits->aD l (ag n)
 ·have g:=g h.2
  by_cases h2:r.2<0
  ·rw[gZ h h2];exact⟨hn,.inr (.inl rfl),Ao.refl n⟩
  ·rw[dS h h2];exact⟨g.ok,.inl (g.aD h2),g.nodes,g.eq⟩
 ·rw[ga h];exact⟨hn,.inr (.inl rfl),Ao.refl n⟩
theorem pg {n:ao}{a b c:Int}:(∀l,l∈[a,b,c]->aD l (ag n))↔aD a (ag n)/\aD b (ag n)/\aD c (ag n):=by simp
theorem bj:Mm bY aj lK Ao where
 refl:=Ao.refl
 trans h k:=h.trans k
 mono h v:=v.imp (fun v=>v.mono h.1) id
 zero s h:= .inl (mO h).1
 one s h:= .inl (mO h).2
 and h a b:=rj h fun hl=>dw h (cO.1 hl).1 (cO.1 hl).2
 or h a b:=rj h fun hl=>tK h (cO.1 hl).1 (cO.1 hl).2
 xor h a b:=rj h fun hl=>tL h (cO.1 hl).1 (cO.1 hl).2
 jk h c a b:=rj h fun hl=>tM h (pg.1 hl).1 (pg.1 hl).2.1 (pg.1 hl).2.2
 not {s a} h v:=by
  show lK s (fb a)
  unfold fb
  split
  ·exact .inr (.inr rfl)
  ·rcases v with v|v
   ·exact .inl (cN v (by have:=aj.count h;omega))
   ·omega
theorem aD.nn {z k:Int}(h:aD z k):0<=z:=h.1
def Ap (N0:Int)(f:ao×Bool->Int->Int->(ao×Bool)×Int)(g:ao->Int->Int->ao×Int):Prop:=
 (∀n a b,aj n->N0<=ag n->aD a (ag n)->aD b (ag n)->(∃m l,f (n,false) a b=((m,false),l)/\g n a b=(m,l)/\aj m/\aD l (ag m)/\ag n<=ag m)\/((f (n,false) a b).1.2=true/\(g n a b).2<0))/\
 (∀s a b,s.2=true->(f s a b).1.2=true)/\∀n a b,a<0\/b<0->(g n a b).2<0
theorem nE {s:ao×Bool}{r:ao×Int}(h:s.2=true):(se s.2 r).1.2=true:=by
 unfold se;split
 ·rfl
 ·exact h
theorem tO {n:ao}{lits:List Int}{r:ao×Int}(hn:aj n)(hl:∀l,l∈lits->aD l (ag n))(g:iv n r):(∃m l,se false r=((m,false),l)/\dG n lits r=(m,l)/\aj m/\aD l (ag m)/\ag n<=ag m)\/((se false r).1.2=true/\(dG n lits r).2<0):=by
 by_cases h2:r.2<0
 ·right
  rw[gZ ⟨hn,hl⟩ h2]
  unfold se
  rw[if_pos h2]
  exact⟨rfl,by show(-1:Int)<0;decide⟩
 ·left
  rw[dS ⟨hn,hl⟩ h2]
  unfold se
  rw[if_neg h2]
  exact⟨r.1,r.2,rfl,rfl,g.ok,g.aD h2,g.nodes⟩
theorem oB {n:ao}{lits:List Int}{r:ao×Int}{z:Int}(hz:z∈lits)(h:z<0):(dG n lits r).2<0:=by
 rw[ga (fun hh=>by have:=(hh.2 z hz).1;omega)]
 show(-1:Int)<0
 decide
theorem Bz {a b:Int}(h:a<0\/b<0):∃z,z∈[a,b]/\z<0:=by
 rcases h with h|h
 ·exact⟨a,by simp,h⟩
 ·exact⟨b,by simp,h⟩
theorem gw (N0:Int):Ap N0 a6.and bY.and:=
 ⟨fun n a b hn _ ha hb=>tO hn (cO.2 ⟨ha,hb⟩) (dw hn ha hb),fun s a b h=>nE h,fun n a b h=>by obtain⟨z,h1,h2⟩:=Bz h;exact oB h1 h2⟩
theorem jy (N0:Int):Ap N0 a6.or bY.or:=
 ⟨fun n a b hn _ ha hb=>tO hn (cO.2 ⟨ha,hb⟩) (tK hn ha hb),fun s a b h=>nE h,fun n a b h=>by obtain⟨z,h1,h2⟩:=Bz h;exact oB h1 h2⟩
theorem g8 (N0:Int):Ap N0 a6.xor bY.xor:=
 ⟨fun n a b hn _ ha hb=>tO hn (cO.2 ⟨ha,hb⟩) (tL hn ha hb),fun s a b h=>nE h,fun n a b h=>by obtain⟨z,h1,h2⟩:=Bz h;exact oB h1 h2⟩
theorem l5 {n:ao}{c a b:Int}(h:c<0\/a<0\/b<0):(bY.jk n c a b).2<0:=by
 rcases h with h|h|h
 ·exact oB (z:=c) (by simp) h
 ·exact oB (z:=a) (by simp) h
 ·exact oB (z:=b) (by simp) h
theorem De {N0 c:Int}(hc:aD c N0):Ap N0 (fun s x y=>a6.jk s c x y) (fun n x y=>bY.jk n c x y):=
 ⟨fun n a b hn h0 ha hb=>tO hn (pg.2 ⟨hc.mono h0,ha,hb⟩) (tM hn (hc.mono h0) ha hb),fun s a b h=>nE h,fun n a b h=>l5 (.inr h)⟩
def g9 (l:List Int):Prop:=∃z,z∈l/\z<0
theorem g9.app {l l':List Int}(h:g9 l):g9 (l++l'):=by obtain⟨z,h1,h2⟩:=h;exact⟨z,List.mem_append_left _ h1,h2⟩
theorem g9.snoc {l:List Int}{z:Int}(h:z<0):g9 (l++[z]):=⟨z,by simp,h⟩
theorem g9.at_ {l:List Int}(h:g9 l):∃i,i<l.length/\l.getD i default<0:=by
 obtain⟨z,h1,h2⟩:=h
 obtain⟨i,hi,he⟩:=List.getElem_of_mem h1
 exact⟨i,hi,by rw[List.getD_eq_getElem?_getD,List.getElem?_eq_getElem hi];show l[i]<0;rw[he];exact h2⟩
def kl (p:(ao×Bool)×List Int)(r:ao×List Int):Prop:=
 (∃m l,p=((m,false),l)/\r=(m,l)/\aj m/\(∀z,z∈l->aD z (ag m)))\/(p.1.2=true/\g9 r.2)
theorem sP {n:ao}(hn:aj n){a:List Int}(ha:∀z,z∈a->aD z (ag n))(k:Nat):aD (a.getD k default) (ag n):=by
 by_cases h:k<a.length
 ·exact ha _ (aK h)
 ·rw[List.getD_eq_getElem?_getD,List.getElem?_eq_none (by omega)]
  exact(mO hn).1
theorem Gq {N0:Int}{f:ao×Bool->Int->Int->(ao×Bool)×Int}{g:ao->Int->Int->ao×Int}(hs:Ap N0 f g){n:ao}(hn:aj n)(h0:N0<=ag n){a b:List Int}(ha:∀z,z∈a->aD z (ag n))(hb:∀z,z∈b->aD z (ag n)):∀k,
  (∃m l,bC f (n,false) a b k=((m,false),l)/\bC g n a b k=(m,l)/\aj m/\(∀z,z∈l->aD z (ag m))/\ag n<=ag m)\/((bC f (n,false) a b k).1.2=true/\g9 (bC g n a b k).2)
 |0=> .inl ⟨n,[],rfl,rfl,hn,by simp,Int.le_refl _⟩
 |k+1=>by
  rcases Gq hs hn h0 ha hb k with⟨m,l,e1,e2,h1,h2,h3⟩|⟨h1,h2⟩
  ·rw[bC,bC,e1,e2]
   rcases hs.1 m (a.getD k default) (b.getD k default) h1 (by omega) ((sP hn ha k).mono h3) ((sP hn hb k).mono h3) with⟨m',l',i1,i2,i3,i4,i5⟩|⟨i1,i2⟩
   ·left
    dsimp only
    rw[i1,i2]
    refine⟨m',l++[l'],rfl,rfl,i3,fun z hz=> ?_,by omega⟩
    rcases List.mem_append.1 hz with hz|hz
    ·exact(h2 z hz).mono i5
    ·simp at hz;subst hz;exact i4
   ·exact .inr ⟨i1,g9.snoc i2⟩
  ·exact .inr ⟨hs.2.1 _ _ _ h1,h2.app⟩
theorem rk {g:ao->Int->Int->ao×Int}(hg:∀n a b,a<0\/b<0->(g n a b).2<0){n:ao}{a b:List Int}:∀k i,i<k->(a.getD i default<0\/b.getD i default<0)->g9 (bC g n a b k).2
 |0,_,h,_=>by omega
 |k+1,i,h,hi=>by
  rw[bC]
  by_cases Lc:i=k
  ·subst Lc;exact g9.snoc (hg _ _ _ hi)
  ·exact(rk hg k i (by omega) hi).app
theorem kl.bit {N0:Int}{f:ao×Bool->Int->Int->(ao×Bool)×Int}{g:ao->Int->Int->ao×Int}(hs:Ap N0 f g){n:ao}(hn:aj n)(h0:N0<=ag n){a b:List Int}(ha:∀z,z∈a->aD z (ag n))(hb:∀z,z∈b->aD z (ag n))(k:Nat):kl (bC f (n,false) a b k) (bC g n a b k):=by
 rcases Gq hs hn h0 ha hb k with⟨m,l,e1,e2,h1,h2,_⟩|h
 ·exact .inl ⟨m,l,e1,e2,h1,h2⟩
 ·exact .inr h
theorem Gr {n:ao}(hn:aj n){a b:List Int}{c:Int}(ha:∀z,z∈a->aD z (ag n))(hb:∀z,z∈b->aD z (ag n))(hc:aD c (ag n)):∀k,k<=a.length->
  (∃m l e,bU a6 (n,false) a b c k=((m,false),l,e)/\bU bY n a b c k=(m,l,e)/\aj m/\(∀z,z∈l->aD z (ag m))/\aD e (ag m)/\ag n<=ag m)\/
   ((bU a6 (n,false) a b c k).1.2=true/\(g9 (bU bY n a b c k).2.1\/((bU bY n a b c k).2.2<0/\k<a.length)))
 |0,_=> .inl ⟨n,[],c,rfl,rfl,hn,by simp,hc,Int.le_refl _⟩
 |k+1,hk=>by
  have xb:=(g8 0).2.1
  have ab:=(gw 0).2.1
  have ob:=(jy 0).2.1
  have xn:=(g8 0).2.2
  have an:=(gw 0).2.2
  have on:=(jy 0).2.2
  have stay:∀(r:(ao×Bool)×List Int×Int) (u v:Int),(jh a6 r u v).1.2=true->(mN a6 r u v).1.2=true:=fun r u v h=>ob _ _ _ (ab _ _ _ (ab _ _ _ h))
  rcases Gr hn ha hb hc k (by omega) with⟨m,l,e,e1,e2,h1,h2,h3,h4⟩|⟨h1,h2⟩
  ·have va:=(sP hn ha k).mono h4
   have vb:=(sP hn hb k).mono h4
   have n0:∀{m},aj m->(0:Int)<=ag m:=fun h=>by have:=h.count;omega
   have hX:=(g8 0).1 m _ _ h1 (n0 h1) va vb
   obtain⟨u,hu⟩:∃u,u=a.getD k default:=⟨_,rfl⟩
   obtain⟨v,hv⟩:∃v,v=b.getD k default:=⟨_,rfl⟩
   rw[<-hu] at va
   rw[<-hv] at vb
   have fin:(jh a6 ((m,false),l,e) u v).1.2=true->(jh bY (m,l,e) u v).2<0->
     ((bU a6 (n,false) a b c (k+1)).1.2=true/\(g9 (bU bY n a b c (k+1)).2.1\/((bU bY n a b c (k+1)).2.2<0/\k+1<a.length))):=fun hp hr=>by
    unfold bU
    rw[e1,e2,<-hu,<-hv]
    split
    ·exact⟨stay _ _ _ hp,.inl (g9.snoc hr)⟩
    ·exact⟨hp,.inl (g9.snoc hr)⟩
   rcases(g8 0).1 m u v h1 (n0 h1) va vb with⟨mx,x,x1,x2,x3,x4,x5⟩|⟨x1,x2⟩
   ·rcases(g8 0).1 mx x e x3 (n0 x3) x4 (h3.mono x5) with⟨my,y,y1,y2,y3,y4,y5⟩|⟨y1,y2⟩
    ·have eX:qC a6 ((m,false),l,e) u v=((mx,false),x):=x1
     have Z3:qC bY (m,l,e) u v=(mx,x):=x2
     have eY:jh a6 ((m,false),l,e) u v=((my,false),y):=by unfold jh;rw[eX];exact y1
     have W5:jh bY (m,l,e) u v=(my,y):=by unfold jh;rw[Z3];exact y2
     have Z4:ag m<=ag my:=by omega
     have VM:∀(m':ao),ag my<=ag m'->∀z,z∈l++[y]->aD z (ag m'):=fun m' hm z hz=>by
      rcases List.mem_append.1 hz with hz|hz
      ·exact(h2 z hz).mono (by omega)
      ·simp at hz;subst hz;exact y4.mono hm
     by_cases BA:k+1<a.length
     ·have RB:(mN a6 ((m,false),l,e) u v).1.2=true->(mN bY (m,l,e) u v).2<0->
        ((bU a6 (n,false) a b c (k+1)).1.2=true/\(g9 (bU bY n a b c (k+1)).2.1\/((bU bY n a b c (k+1)).2.2<0/\k+1<a.length))):=fun hp hr=>by
       unfold bU
       rw[e1,e2,<-hu,<-hv,if_pos BA,if_pos BA]
       exact⟨hp,.inr ⟨hr,BA⟩⟩
      rcases(gw 0).1 my u v y3 (n0 y3) (va.mono Z4) (vb.mono Z4) with⟨mp,p,p1,p2,p3,p4,p5⟩|⟨p1,p2⟩
      ·have eP:pX a6 ((m,false),l,e) u v=((mp,false),p):=by unfold pX;rw[eY];exact p1
       have W6:pX bY (m,l,e) u v=(mp,p):=by unfold pX;rw[W5];exact p2
       rcases(gw 0).1 mp x e p3 (n0 p3) (x4.mono (by omega)) (h3.mono (by omega)) with⟨mq,q,q1,q2,q3,q4,q5⟩|⟨q1,q2⟩
       ·have eQ:pY a6 ((m,false),l,e) u v=((mq,false),q):=by unfold pY;rw[eP,eX];exact q1
        have eQ':pY bY (m,l,e) u v=(mq,q):=by unfold pY;rw[W6,Z3];exact q2
        rcases(jy 0).1 mq p q q3 (n0 q3) (p4.mono q5) q4 with⟨mc,z,z1,z2,z3,z4,z5⟩|⟨z1,z2⟩
        ·have eC:mN a6 ((m,false),l,e) u v=((mc,false),z):=by unfold mN;rw[eQ,eP];exact z1
         have eC':mN bY (m,l,e) u v=(mc,z):=by unfold mN;rw[eQ',W6];exact z2
         left
         refine⟨mc,l++[y],z,?_,?_,z3,VM mc (by omega),z4,by omega⟩
         ·unfold bU;rw[e1,<-hu,<-hv,if_pos BA,eC,eY]
         ·unfold bU;rw[e2,<-hu,<-hv,if_pos BA,eC',W5]
        ·exact .inr (RB (by unfold mN;rw[eQ,eP];exact z1) (by unfold mN;rw[eQ',W6];exact z2))
       ·exact .inr (RB (by unfold mN;exact ob _ _ _ (by unfold pY;rw[eP,eX];exact q1)) (by unfold mN;exact on _ _ _ (.inr (by unfold pY;rw[W6,Z3];exact q2))))
      ·exact .inr (RB (by unfold mN;exact ob _ _ _ (ab _ _ _ (by unfold pX;rw[eY];exact p1))) (by unfold mN;exact on _ _ _ (.inl (by unfold pX;rw[W5];exact p2))))
     ·left
      refine⟨my,l++[y],e,?_,?_,y3,VM my (Int.le_refl _),h3.mono Z4,by omega⟩
      ·unfold bU;rw[e1,<-hu,<-hv,if_neg BA,eY]
      ·unfold bU;rw[e2,<-hu,<-hv,if_neg BA,W5]
    ·refine .inr (fin ?_ ?_)
     ·unfold jh qC;dsimp only;rw[x1];exact y1
     ·unfold jh qC;dsimp only;rw[x2];exact y2
   ·exact .inr (fin (by unfold jh qC;exact xb _ _ _ x1) (by unfold jh qC;exact xn _ _ _ (.inl x2)))
  ·right
   have hpY:∀u v,(jh a6 (bU a6 (n,false) a b c k) u v).1.2=true:=fun u v=>xb _ _ _ (xb _ _ _ h1)
   unfold bU
   split
   ·refine⟨stay _ _ _ (hpY _ _),.inl ?_⟩
    rcases h2 with h2|⟨h2,_⟩
    ·exact h2.app
    ·exact g9.snoc (xn _ _ _ (.inr h2))
   ·refine⟨hpY _ _,.inl ?_⟩
    rcases h2 with h2|⟨h2,_⟩
    ·exact h2.app
    ·exact g9.snoc (xn _ _ _ (.inr h2))
theorem sum_neg {n:ao}{a b:List Int}{c:Int}:∀k,k<=a.length->((c<0/\0<a.length)\/∃i,i<k/\(a.getD i default<0\/b.getD i default<0))->g9 (bU bY n a b c k).2.1\/((bU bY n a b c k).2.2<0/\k<a.length)
 |0,_,h=>by
  rcases h with h|⟨i,hi,_⟩
  ·exact .inr h
  ·omega
 |k+1,hk,h=>by
  have xn:=(g8 0).2.2
  by_cases hn:g9 (bU bY n a b c k).2.1\/((bU bY n a b c k).2.2<0/\k<a.length)
  ·left
   unfold bU
   split
   ·rcases hn with hn|⟨hn,_⟩
    ·exact hn.app
    ·exact g9.snoc (xn _ _ _ (.inr hn))
   ·rcases hn with hn|⟨hn,_⟩
    ·exact hn.app
    ·exact g9.snoc (xn _ _ _ (.inr hn))
  ·have Lc:a.getD k default<0\/b.getD k default<0:=by
    rcases h with h|⟨i,hi,wh⟩
    ·exact absurd (sum_neg k (by omega) (.inl h)) hn
    ·by_cases Lc:i=k
     ·subst Lc;exact wh
     ·exact absurd (sum_neg k (by omega) (.inr ⟨i,by omega,wh⟩)) hn
   left
   unfold bU
   split
   ·exact g9.snoc (xn _ _ _ (.inl (xn _ _ _ Lc)))
   ·exact g9.snoc (xn _ _ _ (.inl (xn _ _ _ Lc)))
theorem kl.sum {n:ao}(hn:aj n){a b:List Int}{c:Int}(ha:∀z,z∈a->aD z (ag n))(hb:∀z,z∈b->aD z (ag n))(hc:aD c (ag n)):kl (qD a6 (n,false) a b c) (qD bY n a b c):=by
 rcases Gr hn ha hb hc a.length (Nat.le_refl _) with⟨m,l,e,e1,e2,h1,h2,_,_⟩|⟨h1,h2⟩
 ·left
  unfold qD
  rw[e1,e2]
  exact⟨m,l,rfl,rfl,h1,h2⟩
 ·exact .inr ⟨h1,h2.resolve_right (by omega)⟩
theorem Gs (eq:Bool){n:ao}(hn:aj n){a b:List Int}(ha:∀z,z∈a->aD z (ag n))(hb:∀z,z∈b->aD z (ag n)):∀k,
  (∃m e,bV a6 eq (n,false) a b k=((m,false),e)/\bV bY eq n a b k=(m,e)/\aj m/\aD e (ag m)/\ag n<=ag m)\/((bV a6 eq (n,false) a b k).1.2=true/\(bV bY eq n a b k).2<0)
 |0=> .inl ⟨n,if eq then 1 else 0,rfl,rfl,hn,by cases eq;exact(mO hn).1;exact(mO hn).2,Int.le_refl _⟩
 |k+1=>by
  have xb:=(g8 0).2.1
  have ab:=(gw 0).2.1
  have mb:∀(s:ao×Bool) (c x y:Int),s.2=true->(a6.jk s c x y).1.2=true:=fun s c x y h=>nE h
  have n0:∀{m},aj m->(0:Int)<=ag m:=fun h=>by have:=h.count;omega
  rcases Gs eq hn ha hb k with⟨m,e,e1,e2,h1,h2,h3⟩|⟨h1,h2⟩
  ·have va:=(sP hn ha k).mono h3
   have vb:=(sP hn hb k).mono h3
   unfold bV
   rw[e1,e2]
   rcases(g8 0).1 m _ _ h1 (n0 h1) va vb with⟨mx,x,x1,x2,x3,x4,x5⟩|⟨x1,x2⟩
   ·dsimp only
    rw[x1,x2]
    cases eq with
    |true=>
     have RC:bY.not x=cS x:=mL x4
     have SX:aD (cS x) (ag mx):=cN x4 (by have:=x3.count;omega)
     rw[if_pos rfl,if_pos rfl,RC]
     rcases(gw 0).1 mx e (cS x) x3 (n0 x3) (h2.mono x5) SX with⟨my,y,y1,y2,y3,y4,y5⟩|⟨y1,y2⟩
     ·exact .inl ⟨my,y,y1,y2,y3,y4,by omega⟩
     ·exact .inr ⟨y1,y2⟩
    |false=>
     rw[if_neg (by decide),if_neg (by decide)]
     rcases(De (N0:=ag mx) x4).1 mx _ e x3 (Int.le_refl _) (vb.mono x5) (h2.mono x5) with⟨my,y,y1,y2,y3,y4,y5⟩|⟨y1,y2⟩
     ·exact .inl ⟨my,y,y1,y2,y3,y4,by omega⟩
     ·exact .inr ⟨y1,y2⟩
   ·right
    dsimp only
    cases eq with
    |true=>exact⟨ab _ _ _ x1,(gw 0).2.2 _ _ _ (.inr (by show fb _<0;unfold fb;rw[if_pos x2];decide))⟩
    |false=>exact⟨mb _ _ _ _ x1,l5 (.inl x2)⟩
  ·right
   unfold bV
   cases eq with
   |true=>exact⟨ab _ _ _ (xb _ _ _ h1),(gw 0).2.2 _ _ _ (.inl h2)⟩
   |false=>exact⟨mb _ _ _ _ (xb _ _ _ h1),l5 (.inr (.inr h2))⟩
theorem BB (eq:Bool){n:ao}{a b:List Int}:∀k i,i<k->(a.getD i default<0\/b.getD i default<0)->(bV bY eq n a b k).2<0
 |0,_,h,_=>by omega
 |k+1,i,h,hi=>by
  have xn:=(g8 0).2.2
  unfold bV
  by_cases Lc:i=k
  ·subst Lc
   cases eq with
   |true=>exact(gw 0).2.2 _ _ _ (.inr (by show fb _<0;unfold fb;rw[if_pos (xn _ _ _ hi)];decide))
   |false=>exact l5 (.inl (xn _ _ _ hi))
  ·have ih:=BB eq (n:=n) k i (by omega) hi
   cases eq with
   |true=>exact(gw 0).2.2 _ _ _ (.inl ih)
   |false=>exact l5 (.inr (.inr ih))
theorem xV {w:Nat}(hw:0<w){e:Int}(h:e<0):g9 (ll w e):=by
 refine⟨e,?_,h⟩
 unfold ll
 rw[List.mem_iff_getElem?]
 exact⟨0,by rw[List.getElem?_set_self (by simpa using hw)]⟩
theorem kl.cmp (eq:Bool){w:Nat}(hw:0<w){n:ao}(hn:aj n){a b:List Int}(ha:∀z,z∈a->aD z (ag n))(hb:∀z,z∈b->aD z (ag n))(k:Nat):kl ((bV a6 eq (n,false) a b k).1,ll w (bV a6 eq (n,false) a b k).2) ((bV bY eq n a b k).1,ll w (bV bY eq n a b k).2):=by
 rcases Gs eq hn ha hb k with⟨m,e,e1,e2,h1,h2,_⟩|⟨h1,h2⟩
 ·left
  rw[e1,e2]
  exact⟨m,_,rfl,rfl,h1,Fa cG (s:=(m,false)) h1 h2⟩
 ·exact .inr ⟨h1,xV hw h2⟩
theorem Gt {n:ao}{a:List Int}(ha:∀z,z∈a->aD z (ag n)):a.map bY.not=a.map a6.not:=List.map_congr_left fun z hz=>mL (ha z hz)
theorem not_neg {a:List Int}(h:g9 a):g9 (a.map bY.not):=by
 obtain⟨z,h1,h2⟩:=h
 exact⟨_,List.mem_map.2 ⟨z,h1,rfl⟩,by show fb z<0;unfold fb;rw[if_pos h2];decide⟩
theorem RD {a:List Int}{i:Nat}(h:a.getD i default<0):(a.map bY.not).getD i default<0:=by
 rw[List.getD_eq_getElem?_getD,List.getElem?_map]
 rw[List.getD_eq_getElem?_getD] at h
 cases he:a[i]? with
 |none=>rw[he] at h;exact absurd h (by decide)
 |some z=>
  rw[he] at h
  have h:z<0:=h
  show fb z<0
  unfold fb;rw[if_pos h];decide
theorem kl.two {w:Nat}(hw:0<w)(kind:Int){n:ao}(hn:aj n){a b:List Int}(ha:∀z,z∈a->aD z (ag n))(hb:∀z,z∈b->aD z (ag n)):kl (gO a6 w kind (n,false) a b) (gO bY w kind n a b):=by
 have hc:=hn.count
 unfold gO
 split
 ·exact kl.sum hn ha hb (mO hn).1
 split
 ·rw[Gt hb]
  refine kl.sum hn ha (fun z hz=> ?_) (mO hn).2
  obtain⟨y,hy,rfl⟩:=List.mem_map.1 hz
  exact cN (hb y hy) (by omega)
 split
 ·exact kl.cmp true hw hn ha hb _
 split
 ·exact kl.cmp false hw hn ha hb _
 split
 ·exact kl.bit (gw 0) hn (by omega) ha hb _
 split
 ·exact kl.bit (jy 0) hn (by omega) ha hb _
 ·exact kl.bit (g8 0) hn (by omega) ha hb _
theorem Gu {w:Nat}(hw:0<w)(kind:Int){n:ao}{a b:List Int}(ha:a.length=w)(hb:b.length=w)(h:g9 a\/g9 b):g9 (gO bY w kind n a b).2:=by
 have hi:∃i,i<a.length/\(a.getD i default<0\/b.getD i default<0):=by
  rcases h with h|h
  ·obtain⟨i,h1,h2⟩:=h.at_;exact⟨i,h1,.inl h2⟩
  ·obtain⟨i,h1,h2⟩:=h.at_;exact⟨i,by omega,.inr h2⟩
 obtain⟨i,pW,wh⟩:=hi
 unfold gO
 split
 ·exact(sum_neg a.length (Nat.le_refl _) (.inr ⟨i,pW,wh⟩)).resolve_right (by omega)
 split
 ·exact(sum_neg a.length (Nat.le_refl _) (.inr ⟨i,pW,wh.imp id RD⟩)).resolve_right (by omega)
 split
 ·exact xV hw (BB true _ i pW wh)
 split
 ·exact xV hw (BB false _ i pW wh)
 split
 ·exact rk (gw 0).2.2 _ i pW wh
 split
 ·exact rk (jy 0).2.2 _ i pW wh
 ·exact rk (g8 0).2.2 _ i pW wh
theorem xW {w:Nat}(kind:Int){s:ao×Bool}{a b:List Int}(h:s.2=true):(gO a6 w kind s a b).1.2=true:=by
 have RE:∀(f:ao×Bool->Int->Int->(ao×Bool)×Int),(∀s a b,s.2=true->(f s a b).1.2=true)->∀k,(bC f s a b k).1.2=true:=fun f hf k=>by
  induction k with
  |zero=>exact h
  |succ k ih=>exact hf _ _ _ ih
 have xb:=(g8 0).2.1
 have ab:=(gw 0).2.1
 have ob:=(jy 0).2.1
 have VN:∀b c k,(bU a6 s a b c k).1.2=true:=fun b c k=>by
  induction k with
  |zero=>exact h
  |succ k ih=>
   unfold bU
   split
   ·exact ob _ _ _ (ab _ _ _ (ab _ _ _ (xb _ _ _ (xb _ _ _ ih))))
   ·exact xb _ _ _ (xb _ _ _ ih)
 have VO:∀eq k,(bV a6 eq s a b k).1.2=true:=fun eq k=>by
  induction k with
  |zero=>exact h
  |succ k ih=>
   unfold bV
   split
   ·exact ab _ _ _ (xb _ _ _ ih)
   ·exact nE (xb _ _ _ ih)
 unfold gO
 repeat' split
 ·exact VN _ _ _
 ·exact VN _ _ _
 ·exact VO _ _
 ·exact VO _ _
 ·exact RE _ ab _
 ·exact RE _ ob _
 ·exact RE _ xb _
theorem Gv {n:ao}(hn:aj n){a:List Int}(ha:∀z,z∈a->aD z (ag n)):∀k,
  (∃m e,di a6 (n,false) a k=((m,false),e)/\di bY n a k=(m,e)/\aj m/\aD e (ag m)/\ag n<=ag m)\/((di a6 (n,false) a k).1.2=true/\(di bY n a k).2<0)
 |0=> .inl ⟨n,0,rfl,rfl,hn,(mO hn).1,Int.le_refl _⟩
 |k+1=>by
  unfold di
  rcases Gv hn ha k with⟨m,e,e1,e2,h1,h2,h3⟩|⟨h1,h2⟩
  ·rw[e1,e2]
   rcases(jy 0).1 m e _ h1 (by have:=h1.count;omega) h2 ((sP hn ha k).mono h3) with⟨my,y,y1,y2,y3,y4,y5⟩|⟨y1,y2⟩
   ·exact .inl ⟨my,y,y1,y2,y3,y4,by omega⟩
   ·exact .inr ⟨y1,y2⟩
  ·exact .inr ⟨(jy 0).2.1 _ _ _ h1,(jy 0).2.2 _ _ _ (.inl h2)⟩
theorem Gw {n:ao}{a:List Int}:∀k i,i<k->a.getD i default<0->(di bY n a k).2<0
 |0,_,h,_=>by omega
 |k+1,i,h,hi=>by
  unfold di
  by_cases Lc:i=k
  ·subst Lc;exact(jy 0).2.2 _ _ _ (.inr hi)
  ·exact(jy 0).2.2 _ _ _ (.inl (Gw k i (by omega) hi))
theorem Gx {g:ao->Int->Int->ao×Int}(hg:∀n a b,(g n a b).2<0){n:ao}{a b:List Int}:∀k,0<k->g9 (bC g n a b k).2
 |0,h=>by omega
 |k+1,_=>by rw[bC];exact g9.snoc (hg _ _ _)
theorem xX {f:ao×Bool->Int->Int->(ao×Bool)×Int}(hf:∀s a b,s.2=true->(f s a b).1.2=true){s:ao×Bool}(h:s.2=true){a b:List Int}:∀k,(bC f s a b k).1.2=true
 |0=>h
 |k+1=>hf _ _ _ (xX hf h k)
theorem kl.jk {w:Nat}(hw:0<w){n:ao}(hn:aj n){a b c:List Int}(ha:∀z,z∈a->aD z (ag n))(hb:∀z,z∈b->aD z (ag n))(hc:∀z,z∈c->aD z (ag n))(uV:b.length=w):kl (sO a6 (n,false) a b c) (sO bY n a b c):=by
 unfold sO
 rcases Gv hn ha a.length with⟨m,e,e1,e2,h1,h2,h3⟩|⟨h1,h2⟩
 ·rw[e1,e2]
  exact kl.bit (De h2) h1 (Int.le_refl _) (fun z hz=>(hb z hz).mono h3) (fun z hz=>(hc z hz).mono h3) _
 ·exact .inr ⟨xX (fun s a b h=>nE h) h1 _,Gx (fun n x y=>l5 (.inl h2)) _ (by omega)⟩
theorem BC {w:Nat}(hw:0<w){n:ao}{a b c:List Int}(ha:a.length=w)(hb:b.length=w)(hc:c.length=w)(h:g9 a\/g9 b\/g9 c):g9 (sO bY n a b c).2:=by
 unfold sO
 rcases h with h|h|h
 ·obtain⟨i,h1,h2⟩:=h.at_
  exact Gx (fun n x y=>l5 (.inl (Gw _ i h1 h2))) _ (by omega)
 ·obtain⟨i,h1,h2⟩:=h.at_
  exact rk (fun n x y hh=>l5 (.inr hh)) _ i h1 (.inl h2)
 ·obtain⟨i,h1,h2⟩:=h.at_
  exact rk (fun n x y hh=>l5 (.inr hh)) _ i (by omega) (.inr h2)
theorem tP {s:ao×Bool}{a b c:List Int}(h:s.2=true):(sO a6 s a b c).1.2=true:=by
 unfold sO
 refine xX (fun s a b h=>nE h) ?_ _
 have:∀k,(di a6 s a k).1.2=true:=fun k=>by
  induction k with
  |zero=>exact h
  |succ k ih=>exact(jy 0).2.1 _ _ _ ih
 exact this _
theorem nT {sig:List (List Int)}{w:Nat}:∀(t:cI) {s:ao×Bool},s.2=true->(dD a6 sig w t s).1.2=true
 | .leaf o,s,h=>h
 | .un o x,s,h=>nT x h
 | .bin o x y,s,h=>xW _ (nT y (nT x h))
 | .nS o x y z,s,h=>tP (nT z (nT y (nT x h)))
theorem kl.ev {sig:List (List Int)}{w:Nat}(hw:0<w):∀(t:cI) {n:ao},aj n->(∀l,l∈sig->∀z,z∈l->aD z (ag n))->kl (dD a6 sig w t (n,false)) (dD bY sig w t n)
 | .leaf o,n,hn,hs=> .inl ⟨n,_,rfl,rfl,hn,JE cG (s:=(n,false)) hn hs w⟩
 | .un o x,n,hn,hs=>by
  rcases kl.ev hw x hn hs with⟨m,l,e1,e2,h1,h2⟩|⟨h1,h2⟩
  ·left
   unfold dD
   rw[e1,e2]
   refine⟨m,l.map a6.not,rfl,by rw[Gt h2],h1,fun z hz=> ?_⟩
   obtain⟨y,hy,rfl⟩:=List.mem_map.1 hz
   exact cN (h2 y hy) (by have:=h1.count;omega)
  ·exact .inr ⟨h1,not_neg h2⟩
 | .bin o x y,n,hn,hs=>by
  have lx:=cv bY sig w x n
  have gx:=db cG (sig:=sig) w x (s:=(n,false)) hn hs
  rcases kl.ev hw x hn hs with⟨m,l,e1,e2,h1,h2⟩|⟨h1,h2⟩
  ·rw[e1] at gx
   have hm:ag n<=ag m:=gx.dX.1.1
   have ly:=cv bY sig w y m
   have gy:=db cG (sig:=sig) w y (s:=(m,false)) h1 (fun l hl z hz=>(hs l hl z hz).mono hm)
   unfold dD
   rw[e1,e2]
   rw[e2] at lx
   rcases kl.ev hw y h1 (fun l hl z hz=>(hs l hl z hz).mono hm) with⟨m',l',i1,i2,i3,i4⟩|⟨i1,i2⟩
   ·rw[i1] at gy
    dsimp only
    rw[i1,i2]
    exact kl.two hw _ i3 (fun z hz=>(h2 z hz).mono gy.dX.1.1) i4
   ·exact .inr ⟨xW _ i1,Gu hw _ lx ly (.inr i2)⟩
  ·exact .inr ⟨xW _ (nT y h1),Gu hw _ lx (cv bY sig w y _) (.inl h2)⟩
 | .nS o x y z,n,hn,hs=>by
  have lx:=cv bY sig w x n
  have gx:=db cG (sig:=sig) w x (s:=(n,false)) hn hs
  rcases kl.ev hw x hn hs with⟨m,l,e1,e2,h1,h2⟩|⟨h1,h2⟩
  ·rw[e1] at gx
   have hm:ag n<=ag m:=gx.dX.1.1
   have ly:=cv bY sig w y m
   have gy:=db cG (sig:=sig) w y (s:=(m,false)) h1 (fun l hl z hz=>(hs l hl z hz).mono hm)
   unfold dD
   rw[e1,e2]
   rw[e2] at lx
   dsimp only
   rcases kl.ev hw y h1 (fun l hl z hz=>(hs l hl z hz).mono hm) with⟨m',l',i1,i2,i3,i4⟩|⟨i1,i2⟩
   ·rw[i1] at gy
    have hm':ag m<=ag m':=gy.dX.1.1
    have lz:=cv bY sig w z m'
    have gz:=db cG (sig:=sig) w z (s:=(m',false)) i3 (fun l hl z hz=>(hs l hl z hz).mono (show ag n<=ag m' by omega))
    rw[i1,i2]
    rw[i2] at ly
    dsimp only
    rcases kl.ev hw z i3 (fun l hl z hz=>(hs l hl z hz).mono (by omega)) with⟨m2,l2,j1,j2,j3,j4⟩|⟨j1,j2⟩
    ·rw[j1] at gz
     rw[j1,j2]
     have Fb:ag m'<=ag m2:=gz.dX.1.1
     exact kl.jk hw j3 (fun z hz=>(h2 z hz).mono (by show _<=ag m2;omega)) (fun z hz=>(i4 z hz).mono Fb) j4 ly
    ·exact .inr ⟨tP j1,BC hw lx ly lz (.inr (.inr j2))⟩
   ·exact .inr ⟨tP (nT z i1),BC hw lx ly (cv bY sig w z _) (.inr (.inl i2))⟩
  ·exact .inr ⟨tP (nT z (nT y h1)),BC hw lx (cv bY sig w y _) (cv bY sig w z _) (.inl h2)⟩
end Go.Xw
