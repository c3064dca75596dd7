/- Texts that belong together; each under its stated conditions. -/
import Derived.Test.YtiepmliokblkjaaGreatEvSem
import Derived.Test.YtiepmliokblkjaaGreatBrf
import Derived.Test.YtiepmliokblkjaaGreatNet
import Derived.Test.YtiepmliokblkjaaGreatExprLaw
set_option linter.all false
section
namespace Go.Xw
open Go.Proofs
set_option maxHeartbeats 1000000
def tb (a:Int)(k:Nat):Bool:=decide (a/2^k%2=1)
def Fj (w:Nat)(kind a b:Int):Int:=
 if kind=8 then(a+b)%2^w else if kind=9 then(a-b)%2^w else if kind=10 then(if a=b then 1 else 0) else if kind=11 then(if a<b then 1 else 0) else if kind=5 then bits .and .i64 a b else if kind=6 then bits .or .i64 a b else bits .xor .i64 a b
def lr (cK:List Int)(w:Nat):cI->Int
 | .leaf o=>if o.kind=0 then o.a%2^w else if o.kind=2 then cK.getD o.a.toNat default%2^w else cK.getD o.a.toNat default/2^o.b.toNat%2
 | .un _ x=>2^w-1-lr cK w x
 | .bin o x y=>Fj w o.kind (lr cK w x) (lr cK w y)
 | .nS _ x y z=>if lr cK w x≠0 then lr cK w y else lr cK w z
theorem Mz:∀w:Fin 5,1<=w.val->∀a:Fin 16,a.val<2^w.val->∀b:Fin 16,b.val<2^w.val->
  (SZ (tb a.val) (tb b.val) w.val=decide (a.val=b.val)/\VY (tb a.val) (tb b.val) w.val=decide (a.val<b.val))/\
  ((bits .and .i64 (a.val:Int) b.val<2^w.val/\0<=bits .and .i64 (a.val:Int) b.val)/\(bits .or .i64 (a.val:Int) b.val<2^w.val/\0<=bits .or .i64 (a.val:Int) b.val)/\bits .xor .i64 (a.val:Int) b.val<2^w.val/\0<=bits .xor .i64 (a.val:Int) b.val)/\
  ∀k:Fin 4,k.val<w.val->
   (tb (((a.val:Int)+b.val)%2^w.val) k.val=((tb a.val k.val^^tb b.val k.val)^^rU (tb a.val) (tb b.val) false k.val)/\
   tb (((a.val:Int)-b.val)%2^w.val) k.val=((tb a.val k.val^^ !tb b.val k.val)^^rU (tb a.val) (fun j=> !tb b.val j) true k.val))/\
   tb (bits .and .i64 (a.val:Int) b.val) k.val=(tb a.val k.val&&tb b.val k.val)/\
   tb (bits .or .i64 (a.val:Int) b.val) k.val=(tb a.val k.val||tb b.val k.val)/\
   tb (bits .xor .i64 (a.val:Int) b.val) k.val=(tb a.val k.val^^tb b.val k.val):=by
 decide+kernel
theorem MA:∀w:Fin 5,1<=w.val->∀a:Fin 16,(a.val<2^w.val->JP (tb a.val) w.val=decide ((a.val:Int)≠0))/\∀k:Fin 4,k.val<w.val->
   (a.val<2^w.val->tb (2^w.val-1-(a.val:Int)) k.val= !tb a.val k.val)/\tb ((a.val:Int)%2^w.val) k.val=tb a.val k.val:=by
 decide+kernel
theorem GS (c:Prop)[Decidable c](k:Nat):tb (if c then 1 else 0) k=(decide c&&decide (k=0)):=by
 unfold tb
 by_cases hk:k=0
 ·subst hk
  by_cases h:c<;>simp[h]
 ·have h2:(2:Int)^k>=2:=by
   have:=lT (s:=1) (t:=k) (by omega)
   simpa using this
  have h3:(1:Int)/2^k=0:=Int.ediv_eq_zero_of_lt (by decide) (by omega)
  by_cases h:c<;>simp[h,hk,h3]
theorem RM {a:Int}(k:Nat)(h:a=0\/a=1):tb a k=(decide (a=1)&&decide (k=0)):=by
 have:=GS (a=1) k
 rw[<-this]
 rcases h with h|h<;>rw[h]<;>rfl
def CA (w:Nat)(a:Int):Prop:=0<=a/\a<2^w
theorem wq {w:Nat}(h:w<=4):(2:Int)^w<=16:=by
 have:=lT (s:=w) (t:=4) h
 simpa using this
theorem yg (w:Nat):((2^w:Nat):Int)=(2:Int)^w:=by simp
theorem GU {w:Nat}(hw:1<=w/\w<=4){a b:Int}(ha:CA w a)(hb:CA w b):
  (SZ (tb a) (tb b) w=decide (a=b)/\VY (tb a) (tb b) w=decide (a<b))/\
  (CA w (bits .and .i64 a b)/\CA w (bits .or .i64 a b)/\CA w (bits .xor .i64 a b))/\
  ∀k,k<w->
   (tb ((a+b)%2^w) k=((tb a k^^tb b k)^^rU (tb a) (tb b) false k)/\
   tb ((a-b)%2^w) k=((tb a k^^ !tb b k)^^rU (tb a) (fun j=> !tb b j) true k))/\
   tb (bits .and .i64 a b) k=(tb a k&&tb b k)/\
   tb (bits .or .i64 a b) k=(tb a k||tb b k)/\
   tb (bits .xor .i64 a b) k=(tb a k^^tb b k):=by
 have RN:=wq hw.2
 have hc:=yg w
 obtain⟨h1,h2⟩:=ha
 obtain⟨h3,h4⟩:=hb
 have h:=Mz ⟨w,by omega⟩ hw.1 ⟨a.toNat,by omega⟩ (by show a.toNat<2^w;omega) ⟨b.toNat,by omega⟩ (by show b.toNat<2^w;omega)
 obtain⟨a',rfl⟩:=Int.eq_ofNat_of_zero_le h1
 obtain⟨b',rfl⟩:=Int.eq_ofNat_of_zero_le h3
 simp only[Int.toNat_natCast] at h
 obtain⟨⟨g1,g2⟩,⟨g3,g4,g5⟩,g6⟩:=h
 refine⟨⟨?_,?_⟩,⟨⟨g3.2,g3.1⟩,⟨g4.2,g4.1⟩,g5.2,g5.1⟩,fun k hk=>g6 ⟨k,by omega⟩ hk⟩
 ·rw[g1];exact decide_eq_decide.2 (by omega)
 ·rw[g2];exact decide_eq_decide.2 (by omega)
theorem one_num {w:Nat}(hw:1<=w/\w<=4){a:Int}(ha:0<=a/\a<=15):(a<2^w->JP (tb a) w=decide (a≠0))/\∀k,k<w->(a<2^w->tb (2^w-1-a) k= !tb a k)/\tb (a%2^w) k=tb a k:=by
 have hc:=yg w
 have h:=MA ⟨w,by omega⟩ hw.1 ⟨a.toNat,by omega⟩
 obtain⟨a',rfl⟩:=Int.eq_ofNat_of_zero_le ha.1
 simp only[Int.toNat_natCast] at h
 obtain⟨g1,g2⟩:=h
 exact⟨fun hl=>g1 (by omega),fun k hk=>⟨fun hl=>(g2 ⟨k,by omega⟩ hk).1 (by omega),(g2 ⟨k,by omega⟩ hk).2⟩⟩
theorem MB {w:Nat}(hw:1<=w/\w<=4)(kind:Int){a b:Int}(ha:CA w a)(hb:CA w b):CA w (Fj w kind a b):=by
 have hp:(2:Int)^w>=2:=by
  have:=lT (s:=1) (t:=w) hw.1
  simpa using this
 obtain⟨_,⟨g1,g2,g3⟩,_⟩:=GU hw ha hb
 unfold Fj
 repeat' split
 ·exact⟨Int.emod_nonneg _ (by omega),Int.emod_lt_of_pos _ (by omega)⟩
 ·exact⟨Int.emod_nonneg _ (by omega),Int.emod_lt_of_pos _ (by omega)⟩
 ·exact⟨by omega,by omega⟩
 ·exact⟨by omega,by omega⟩
 ·exact⟨by omega,by omega⟩
 ·exact⟨by omega,by omega⟩
 ·exact g1
 ·exact g2
 ·exact g3
theorem jJ {w:Nat}(hw:1<=w/\w<=4)(cK:List Int):∀t:cI,CA w (lr cK w t)
 | .leaf o=>by
  have hp:(2:Int)^w>=2:=by
   have:=lT (s:=1) (t:=w) hw.1
   simpa using this
  unfold lr
  split
  ·exact⟨Int.emod_nonneg _ (by omega),Int.emod_lt_of_pos _ (by omega)⟩
  ·split
   ·exact⟨Int.emod_nonneg _ (by omega),Int.emod_lt_of_pos _ (by omega)⟩
   ·exact⟨by omega,by omega⟩
 | .un _ x=>by
  have⟨h1,h2⟩:=jJ hw cK x
  unfold lr
  exact⟨by omega,by omega⟩
 | .bin o x y=>MB hw o.kind (jJ hw cK x) (jJ hw cK y)
 | .nS _ x y z=>by
  unfold lr
  split
  ·exact jJ hw cK y
  ·exact jJ hw cK z
structure rV (U:List Int)(n:ao)(sig:List (List Int))(cK:List Int):Prop where
 Az:∀i,i<sig.length->0<=cK.getD i default/\cK.getD i default<=15
 bit:∀i,i<sig.length->∀k,k<4->vB U n (g7 (sig.getD i default) k)=tb (cK.getD i default) k
theorem JQ {s:ao×Bool}(hI:IS s){l:List Int}(hl:∀z,z∈l->VS s z)(k:Nat):VS s (g7 l k):=cZ aX hI hl k
theorem rV.le {U:List Int}{s s':ao×Bool}(hl:IK s s')(hI:IS s)(hU:fg U s.1){sig:List (List Int)}{cK:List Int}(hs:∀l,l∈sig->∀z,z∈l->VS s z)(h:rV U s.1 sig cK):rV U s'.1 sig cK:=
 ⟨h.Az,fun i hi k hk=>by rw[hl.v hI hU (JQ hI (hs _ (aK hi)) k)];exact h.bit i hi k hk⟩
theorem iI.fit {U:List Int}{n:ao}{ls:List Int}{p q:Nat->Bool}(h:iI U n ls p)(e:∀k,k<ls.length->p k=q k):iI U n ls q:=fun k hk=>by rw[h k hk,e k hk]
theorem JR {U:List Int}{n:ao}{w:Nat}{e:Int}{c:Prop}[Decidable c](h0:vB U n 0=false)(he:vB U n e=decide c):iI U n (ll w e) (tb (if c then 1 else 0)):=fun k hk=>by
 rw[GS]
 unfold ll at hk⊢
 rw[List.length_set,List.length_replicate] at hk
 by_cases CB:k=0
 ·subst CB
  rw[List.getD_eq_getElem?_getD,List.getElem?_set_self (by simpa using hk)]
  simp[he]
 ·rw[List.getD_eq_getElem?_getD,List.getElem?_set_ne (fun e=>CB e.symm),List.getElem?_replicate,if_pos hk]
  simp[CB,h0]
theorem tX {α β:Type}[Inhabited α][Inhabited β](f:α->β){X:List α}{i:Nat}(h:i<X.length):(X.map f).getD i default=f (X.getD i default):=by
 simp[List.getD_eq_getElem?_getD,h]
theorem Oz {U:List Int}{s:ao×Bool}(hI:IS s)(hU:fg U s.1){a:List Int}(ha:∀z,z∈a->VS s z){p:Nat->Bool}(h:iI U s.1 a p):iI U s.1 (a.map a6.not) (fun k=> !p k):=fun k hk=>by
 rw[List.length_map] at hk
 rw[tX _ hk]
 show vB U s.1 (cS (a.getD k default))=_
 rw[qI hI hU (ha _ (aK hk)),h k hk]
theorem RO {U:List Int}{s:ao×Bool}(hI:IS s)(hU:fg U s.1){sig:List (List Int)}{cK:List Int}(hR:rV U s.1 sig cK){w:Nat}(hw:1<=w/\w<=4){o:dK}(ho:(cI.leaf o).ok sig.length):iI U s.1 (tN sig w o) (tb (lr cK w (.leaf o))):=fun k hk=>by
 obtain⟨h1,h2,h3⟩:=ho
 rw[uU] at hk
 have e:(tN sig w o).getD k default=if o.kind=0 then o.a/2^k%2 else if o.kind=2 then g7 (sig.getD o.a.toNat default) k else if k=0 then g7 (sig.getD o.a.toNat default) o.b.toNat else 0:=by
  unfold tN
  simp[List.getD_eq_getElem?_getD,hk]
 have wL:=Dy hI hU
 rw[e]
 unfold lr e6 at*
 by_cases k0:o.kind=0
 ·rw[if_pos k0] at h2⊢
  rw[if_pos k0,((one_num hw h2.1).2 k hk).2]
  unfold tb
  have h4:o.a/2^k%2=0\/o.a/2^k%2=1:=by omega
  rcases h4 with h4|h4<;>rw[h4]
  ·exact wL.1
  ·exact wL.2
 ·rw[if_neg k0] at h2⊢
  rw[if_neg k0]
  by_cases k2:o.kind=2
  ·rw[if_pos k2] at h2⊢
   rw[if_pos k2]
   have hi:o.a.toNat<sig.length:=by omega
   rw[((one_num hw (hR.Az _ hi)).2 k hk).2]
   exact hR.bit _ hi k (by omega)
  ·rw[if_neg k2] at h2⊢
   rw[if_neg k2]
   by_cases k3:o.kind=3
   ·rw[if_pos k3] at h2
    have hi:o.a.toNat<sig.length:=by omega
    have h4:cK.getD o.a.toNat default/2^o.b.toNat%2=0\/cK.getD o.a.toNat default/2^o.b.toNat%2=1:=by omega
    rw[RM k h4]
    by_cases CB:k=0
    ·rw[if_pos CB,hR.bit _ hi _ (by omega)]
     simp[CB,tb]
    ·rw[if_neg CB,wL.1]
     simp[CB]
   ·exfalso
    unfold jx at h1
    repeat' split at h1
    all_goals omega
theorem DA {U:List Int}{sig:List (List Int)}{cK:List Int}{w:Nat}(hw:1<=w/\w<=4):∀(t:cI) (s:ao×Bool),IS s->fg U s.1->rV U s.1 sig cK->(∀l,l∈sig->∀z,z∈l->VS s z)->t.ok sig.length->(dD a6 sig w t s).1.2=false->iI U (dD a6 sig w t s).1.1 (dD a6 sig w t s).2 (tb (lr cK w t))
 | .leaf o,s,hI,hU,hR,hs,ho,hn=>RO hI hU hR hw ho
 | .un o x,s,hI,hU,hR,hs,ho,hn=>by
  have g:=db aX (sig:=sig) w x hI hs
  have ih:=DA hw x s hI hU hR hs ho.2 hn
  have hx:=jJ hw cK x
  have RN:=wq hw.2
  refine(Oz g.i (hU.le g.dX) g.v ih).fit fun k hk=> ?_
  rw[List.length_map,cv] at hk
  exact(((one_num hw (a:=lr cK w x) ⟨hx.1,by have:=hx.2;omega⟩).2 k hk).1 hx.2).symm
 | .bin o x y,s,hI,hU,hR,hs,ho,hn=>by
  have g1:=db aX (sig:=sig) w x hI hs
  have g2:=db aX w y g1.i (fun l hl z hz=>aX.mono g1.dX (hs l hl z hz))
  obtain⟨r1,e1⟩:∃r,r=dD a6 sig w x s:=⟨_,rfl⟩
  rw[<-e1] at g1 g2
  obtain⟨r2,e2⟩:∃r,r=dD a6 sig w y r1.1:=⟨_,rfl⟩
  rw[<-e2] at g2
  have eA:dD a6 sig w (.bin o x y) s=gO a6 w o.kind r2.1 r1.2 r2.2:=by rw[e2,e1];rfl
  rw[eA] at hn⊢
  have sf:∀z,z∈r1.2->VS r2.1 z:=fun z hz=>aX.mono g2.dX (g1.v z hz)
  have g3:=Dc aX (w:=w) o.kind g2.i sf g2.v
  have n2:r2.1.2=false:=g3.dX.jf hn
  have n1:r1.1.2=false:=g2.dX.jf n2
  have u1:=hU.le g1.dX
  have u2:=u1.le g2.dX
  have xU:=DA hw x s hI hU hR hs ho.2.1 (by rw[<-e1];exact n1)
  rw[<-e1] at xU
  have pL:=DA hw y r1.1 g1.i u1 (hR.le g1.dX hI hU hs) (fun l hl z hz=>aX.mono g1.dX (hs l hl z hz)) ho.2.2 (by rw[<-e2];exact n2)
  rw[<-e2] at pL
  have xU:=xU.le g2.dX g1.i u1 g1.v
  have l1:r1.2.length=w:=by rw[e1];exact cv _ _ _ _ _
  have l2:r2.2.length=w:=by rw[e2];exact cv _ _ _ _ _
  have ha:=jJ hw cK x
  have hb:=jJ hw cK y
  show iI U _ _ (tb (Fj w o.kind (lr cK w x) (lr cK w y)))
  obtain⟨a,hae⟩:∃a,a=lr cK w x:=⟨_,rfl⟩
  obtain⟨b,W9⟩:∃b,b=lr cK w y:=⟨_,rfl⟩
  rw[<-hae] at ha xU⊢
  rw[<-W9] at hb pL⊢
  obtain⟨⟨q1,q2⟩,_,q3⟩:=GU hw ha hb
  have wL:=Dy g2.i u2
  unfold gO at hn⊢
  unfold Fj
  by_cases k8:o.kind=8
  ·rw[if_pos k8] at hn⊢
   rw[if_pos k8]
   have h:=(GQ g2.i u2 sf g2.v xU pL (aX.zero _ g2.i) (by omega) r1.2.length (Nat.le_refl _) hn).1
   rw[wL.1] at h
   refine h.fit fun k hk=> ?_
   rw[jV] at hk
   exact((q3 k (by omega)).1.1).symm
  ·rw[if_neg k8] at hn⊢
   rw[if_neg k8]
   by_cases k9:o.kind=9
   ·rw[if_pos k9] at hn⊢
    rw[if_pos k9]
    have HN:=Oz g2.i u2 g2.v pL
    have SX:∀z,z∈r2.2.map a6.not->VS r2.1 z:=fun z hz=>by
     obtain⟨z',Ot,rfl⟩:=List.mem_map.1 hz
     exact aX.not g2.i (g2.v z' Ot)
    have h:=(GQ g2.i u2 sf SX xU HN (aX.one _ g2.i) (by rw[List.length_map];omega) r1.2.length (Nat.le_refl _) hn).1
    rw[wL.2] at h
    refine h.fit fun k hk=> ?_
    rw[jV] at hk
    exact((q3 k (by omega)).1.2).symm
   ·rw[if_neg k9] at hn⊢
    rw[if_neg k9]
    by_cases RP:o.kind=10
    ·rw[if_pos RP] at hn⊢
     rw[if_pos RP]
     have h:=GR g2.i u2 sf g2.v xU pL true (by omega) r1.2.length (Nat.le_refl _) hn
     rw[if_pos rfl,l1,q1] at h
     have hg:=js aX true g2.i sf g2.v r1.2.length
     rw[l1] at hg⊢
     exact JR (Dy hg.1 (u2.le hg.2.2)).1 h
    ·rw[if_neg RP] at hn⊢
     rw[if_neg RP]
     by_cases Xa:o.kind=11
     ·rw[if_pos Xa] at hn⊢
      rw[if_pos Xa]
      have h:=GR g2.i u2 sf g2.v xU pL false (by omega) r1.2.length (Nat.le_refl _) hn
      rw[if_neg (by decide),l1,q2] at h
      have hg:=js aX false g2.i sf g2.v r1.2.length
      rw[l1] at hg⊢
      exact JR (Dy hg.1 (u2.le hg.2.2)).1 h
     ·rw[if_neg Xa] at hn⊢
      rw[if_neg Xa]
      by_cases k5:o.kind=5
      ·rw[if_pos k5] at hn⊢
       rw[if_pos k5]
       refine(Dz g2.i u2 sf g2.v xU pL (· && ·) (fun s' x y hl h1 h2 h3=>aX.and h1 h2 h3) (fun s' x y hl h1 h2 h3 h4=>GP h1 (u2.le hl) h2 h3 h4) r1.2.length (Nat.le_refl _) (by omega) hn).fit fun k hk=> ?_
       rw[dH] at hk
       exact((q3 k (by omega)).2.1).symm
      ·rw[if_neg k5] at hn⊢
       rw[if_neg k5]
       by_cases k6:o.kind=6
       ·rw[if_pos k6] at hn⊢
        rw[if_pos k6]
        refine(Dz g2.i u2 sf g2.v xU pL (· || ·) (fun s' x y hl h1 h2 h3=>aX.or h1 h2 h3) (fun s' x y hl h1 h2 h3 h4=>RL h1 (u2.le hl) h2 h3 h4) r1.2.length (Nat.le_refl _) (by omega) hn).fit fun k hk=> ?_
        rw[dH] at hk
        exact((q3 k (by omega)).2.2.1).symm
       ·rw[if_neg k6] at hn⊢
        rw[if_neg k6]
        refine(Dz g2.i u2 sf g2.v xU pL (· ^^ ·) (fun s' x y hl h1 h2 h3=>aX.xor h1 h2 h3) (fun s' x y hl h1 h2 h3 h4=>yf h1 (u2.le hl) h2 h3 h4) r1.2.length (Nat.le_refl _) (by omega) hn).fit fun k hk=> ?_
        rw[dH] at hk
        exact((q3 k (by omega)).2.2.2).symm
 | .nS o x y z,s,hI,hU,hR,hs,ho,hn=>by
  have g1:=db aX (sig:=sig) w x hI hs
  have g2:=db aX w y g1.i (fun l hl z hz=>aX.mono g1.dX (hs l hl z hz))
  have Ry:=aX.trans g1.dX g2.dX
  have g3:=db aX w z g2.i (fun l hl z hz=>aX.mono Ry (hs l hl z hz))
  obtain⟨r1,e1⟩:∃r,r=dD a6 sig w x s:=⟨_,rfl⟩
  rw[<-e1] at g1 g2 g3 Ry
  obtain⟨r2,e2⟩:∃r,r=dD a6 sig w y r1.1:=⟨_,rfl⟩
  rw[<-e2] at g2 g3 Ry
  obtain⟨r3,e3⟩:∃r,r=dD a6 sig w z r2.1:=⟨_,rfl⟩
  rw[<-e3] at g3
  have eA:dD a6 sig w (.nS o x y z) s=sO a6 r3.1 r1.2 r2.2 r3.2:=by rw[e3,e2,e1];rfl
  rw[eA] at hn⊢
  have l13:=aX.trans g2.dX g3.dX
  have sf:∀z,z∈r1.2->VS r3.1 z:=fun z hz=>aX.mono l13 (g1.v z hz)
  have OA:∀z,z∈r2.2->VS r3.1 z:=fun z hz=>aX.mono g3.dX (g2.v z hz)
  have g4:=Dd aX g3.i sf OA g3.v
  have n3:r3.1.2=false:=g4.dX.jf hn
  have n2:r2.1.2=false:=g3.dX.jf n3
  have n1:r1.1.2=false:=g2.dX.jf n2
  have u1:=hU.le g1.dX
  have u2:=u1.le g2.dX
  have u3:=u2.le g3.dX
  have xU:=DA hw x s hI hU hR hs ho.2.1 (by rw[<-e1];exact n1)
  rw[<-e1] at xU
  have jw:∀l,l∈sig->∀z,z∈l->VS r1.1 z:=fun l hl z hz=>aX.mono g1.dX (hs l hl z hz)
  have u5:∀l,l∈sig->∀z,z∈l->VS r2.1 z:=fun l hl z hz=>aX.mono Ry (hs l hl z hz)
  have Xb:=hR.le g1.dX hI hU hs
  have Jz:=Xb.le g2.dX g1.i u1 jw
  have pL:=DA hw y r1.1 g1.i u1 Xb jw ho.2.2.1 (by rw[<-e2];exact n2)
  rw[<-e2] at pL
  have ih3:=DA hw z r2.1 g2.i u2 Jz u5 ho.2.2.2 (by rw[<-e3];exact n3)
  rw[<-e3] at ih3
  have xU:=xU.le l13 g1.i u1 g1.v
  have pL:=pL.le g3.dX g2.i u2 g2.v
  have l1:r1.2.length=w:=by rw[e1];exact cv _ _ _ _ _
  have l2:r2.2.length=w:=by rw[e2];exact cv _ _ _ _ _
  have l3:r3.2.length=w:=by rw[e3];exact cv _ _ _ _ _
  have ha:=jJ hw cK x
  have RN:=wq hw.2
  have hq:=(one_num hw (a:=lr cK w x) ⟨ha.1,by have:=ha.2;omega⟩).1 ha.2
  obtain⟨ai,av,al⟩:=oA aX g3.i sf r1.2.length
  have u4:=u3.le al
  unfold sO at hn⊢
  have G:=fH aX (s:=(di a6 r3.1 r1.2 r1.2.length).1) (f:=fun s' x y=>a6.jk s' (di a6 r3.1 r1.2 r1.2.length).2 x y) (fun s' x y hl h1 h2 h3=>aX.jk h1 (aX.mono hl av) h2 h3) ai (fun z hz=>aX.mono al (OA z hz)) (fun z hz=>aX.mono al (g3.v z hz)) r2.2.length
  have nA:(di a6 r3.1 r1.2 r1.2.length).1.2=false:=G.dX.jf hn
  have hA:=Oy g3.i u3 sf xU r1.2.length (Nat.le_refl _) nA
  have Xc:vB U (di a6 r3.1 r1.2 r1.2.length).1.1 (di a6 r3.1 r1.2 r1.2.length).2=decide (lr cK w x≠0):=by rw[hA,l1,hq]
  refine(Dz ai u4 (fun z hz=>aX.mono al (OA z hz)) (fun z hz=>aX.mono al (g3.v z hz)) (pL.le al g3.i u3 OA) (ih3.le al g3.i u3 g3.v) (fun p q=>if decide (lr cK w x≠0) then p else q) (fun s' x y hl h1 h2 h3=>aX.jk h1 (aX.mono hl av) h2 h3) (fun s' x y hl h1 h2 h3 h4=>by
   rw[Ox h1 (u4.le hl) (aX.mono hl av) h2 h3 h4,hl.v ai u4 av,Xc]) r2.2.length (Nat.le_refl _) (by omega) hn).fit fun k hk=> ?_
  show(if decide (lr cK w x≠0) then tb (lr cK w y) k else tb (lr cK w z) k)=tb (if lr cK w x≠0 then lr cK w y else lr cK w z) k
  by_cases h:lr cK w x≠0
  ·rw[if_pos (decide_eq_true h),if_pos h]
  ·rw[if_neg (by rw[decide_eq_false h];decide),if_neg h]
end Go.Xw
end
section
namespace Go.Xw
def kf (o:dK):List Value:=[.int .i64 o.kind,.int .i64 o.a,.int .i64 o.b]
instance RQ:bX kf 3:=⟨fun _=>rfl,fun x u hu=>by simp[kf] at hu;rcases hu with rfl|rfl|rfl<;>rfl⟩
end Go.Xw
namespace Go.Proofs
open Go.Xw
set_option maxRecDepth 100000
set_option maxHeartbeats 1000000
attribute [local irreducible] ax aE
end Go.Proofs
end
section
namespace Go.Xw
open Go.Proofs
structure pQ where
 kind:Int
 width:Int
 init:Int
deriving Inhabited,DecidableEq
structure MC where
 tg:Int
 ops:List dK
deriving Inhabited,DecidableEq
structure yh where
 addr:Int
 data:Int
 write:Int
 out:Int
deriving Inhabited,DecidableEq
structure aQ where
 sg:List pQ
 aP:List MC
 ins:List fS
 ms:List yh
deriving DecidableEq
structure qJ where
 tg:Int
 ops:List dK
 oa:Option Addr
 oc:Nat
instance:Inhabited qJ:=⟨⟨0,[],none,0⟩⟩
def qJ.s (x:qJ):MC:=⟨x.tg,x.ops⟩
def n7 (x:pQ):List Value:=[.int .i64 x.kind,.int .i64 x.width,.int .i64 x.init]
def BN (x:qJ):List Value:=[.int .i64 x.tg,.slice x.oa x.ops.length x.oc]
def p9 (x:yh):List Value:=[.int .i64 x.addr,.int .i64 x.data,.int .i64 x.write,.int .i64 x.out]
instance RR:bX n7 3:=⟨fun _=>rfl,fun x u hu=>by simp[n7] at hu;rcases hu with rfl|rfl|rfl<;>rfl⟩
instance RS:bX BN 2:=⟨fun _=>rfl,fun x u hu=>by simp[BN] at hu;rcases hu with rfl|rfl<;>rfl⟩
instance RT:bX p9 4:=⟨fun _=>rfl,fun x u hu=>by simp[p9] at hu;rcases hu with rfl|rfl|rfl|rfl<;>rfl⟩
structure bm where
 sg:List pQ
 sa:Option Addr
 sc:Nat
 aP:List qJ
 aa:Option Addr
 ac:Nat
 ins:List dO
 ia:Option Addr
 ic:Nat
 ms:List yh
 ma:Option Addr
 mc:Nat
instance:Inhabited bm:=⟨⟨[],none,0,[],none,0,[],none,0,[],none,0⟩⟩
def JS (R:List qJ):List MC:=R.map qJ.s
theorem JT (R:List qJ)(i:Nat):(JS R).getD i default=(R.getD i default).s:=by
 simp only[JS,List.getD_eq_getElem?_getD,List.getElem?_map]
 cases R[i]?<;>rfl
theorem JU (R:List qJ):(JS R).length=R.length:=by simp[JS]
def bm.n (x:bm):aQ:=⟨x.sg,JS x.aP,aU x.ins,x.ms⟩
def bm.cs (x:bm):List Value:=[.slice x.sa x.sg.length x.sc,.slice x.aa x.aP.length x.ac,.slice x.ia x.ins.length x.ic,.slice x.ma x.ms.length x.mc]
def bm.v (x:bm):Value:= .agg ⟨x.cs⟩
instance RU:bX bm.cs 4:=⟨fun _=>rfl,fun x u hu=>by simp[bm.cs] at hu;rcases hu with rfl|rfl|rfl|rfl<;>rfl⟩
theorem bm.cC (x:bm):x.n.aP.length=x.aP.length:=JU _
theorem bm.RW (x:bm)(i:Nat):x.n.aP.getD i default=(x.aP.getD i default).s:=JT _ _
theorem bm.Le (x:bm)(i:Nat):(x.n.aP.getD i default).tg=(x.aP.getD i default).tg:=by rw[x.RW];rfl
theorem bm.mR (x:bm)(i:Nat):(x.n.aP.getD i default).ops=(x.aP.getD i default).ops:=by rw[x.RW];rfl
theorem bm.RX (x:bm):x.n.ins.length=x.ins.length:=cm _
class RY (w:World)(a:Option Addr)(R:List qJ):Prop where
 row:Rd w a 2 BN R
 ops:∀s,s∈R->Rd w s.oa 3 kf s.ops
class iJ (w:World)(x:bm):Prop where
 sg:Rd w x.sa 3 n7 x.sg
 aP:RY w x.aa x.aP
 ins:r9 w x.ia x.ins
 ms:Rd w x.ma 4 p9 x.ms
theorem RY.ext {w w':World}{a:Option Addr}{R:List qJ}(h:RY w a R)(hx:Ext w w'):RY w' a R:=⟨h.row.ext hx,fun s hs=>(h.ops s hs).ext hx⟩
theorem iJ.ext {w w':World}{x:bm}(h:iJ w x)(hx:Ext w w'):iJ w' x:=⟨h.sg.ext hx,h.aP.ext hx,h.ins.ext hx,h.ms.ext hx⟩
theorem RY.at_ {w:World}{a:Option Addr}{R:List qJ}(h:RY w a R){i:Nat}(hi:i<R.length):Rd w (R.getD i default).oa 3 kf (R.getD i default).ops:=h.ops _ (aK hi)
def tY (R:List qJ):bh:=rQ (R.map fun s=>rO 132 3 kf s.oa s.oc s.ops)
def wy (a:Option Addr)(c:Nat)(R:List qJ):bh:=rQ [rO 75 2 BN a c R,tY R]
def kP (a:Option Addr)(c:Nat)(R:List dO):bh:=rQ [rO 150 3 ke a c R,fz R]
def mS (x:bm):bh:=rQ [rO 66 3 n7 x.sa x.sc x.sg,wy x.aa x.ac x.aP,kP x.ia x.ic x.ins,rO 70 4 p9 x.ma x.mc x.ms]
theorem V0 {w:World}{a:Option Addr}{c:Nat}{R:List qJ}(h:(wy a c R).P w):RY w a R:=by
 have h1:=h (rO 75 2 BN a c R) (by simp)
 have h2:=h (tY R) (by simp)
 exact⟨⟨dk.sl h1 RS.len⟩,fun s hs=>⟨dk.sl (h2 _ (List.mem_map.2 ⟨s,hs,rfl⟩)) RQ.len⟩⟩
theorem RZ {w:World}{a:Option Addr}{c:Nat}{R:List dO}(h:(kP a c R).P w):r9 w a R:=by
 have h1:=h (rO 150 3 ke a c R) (by simp)
 have h2:=h (fz R) (by simp)
 exact⟨⟨dk.sl h1 Jx.len⟩,fun s hs=>⟨dk.sl (h2 _ (List.mem_map.2 ⟨s,hs,rfl⟩)) tB.len⟩⟩
theorem JV {w:World}{x:bm}(h:(mS x).P w):iJ w x:=
 ⟨⟨dk.sl (h (rO 66 3 n7 x.sa x.sc x.sg) (by simp)) RR.len⟩,V0 (c:=x.ac) (h (wy x.aa x.ac x.aP) (by simp)),RZ (c:=x.ic) (h (kP x.ia x.ic x.ins) (by simp)),⟨dk.sl (h (rO 70 4 p9 x.ma x.mc x.ms) (by simp)) RT.len⟩⟩
class nV (w0:World)(L:List bh)(x:bm):Prop where
 h:∀w,Hp w0 w L->iJ w x
instance (priority:=low) nV.base {w0:World}{L:List bh}{x:bm}[h:iJ w0 x]:nV w0 L x:=⟨fun _ hp=>h.ext hp.x⟩
instance nV.head {w0:World}{L:List bh}{x:bm}:nV w0 (mS x::L) x:=⟨fun _ hp=>JV hp.g0⟩
instance nV.tail {w0:World}{L:List bh}{R:bh}{x:bm}[h:nV w0 L x]:nV w0 (R::L) x:=⟨fun w hp=>h.h w hp.drop⟩
theorem Hp.mod {w0 w:World}{L:List bh}(hp:Hp w0 w L){x:bm}[h:nV w0 L x]:iJ w x:=h.h w hp
instance (priority:=low) gm.ofMod1 {w0:World}{L:List bh}{x:bm}[h:nV w0 L x]:gm w0 L x.sa 3 n7 x.sg:=⟨fun w hp=>(h.h w hp).sg.h⟩
instance (priority:=low) gm.ofMod2 {w0:World}{L:List bh}{x:bm}[h:nV w0 L x]:gm w0 L x.aa 2 BN x.aP:=⟨fun w hp=>(h.h w hp).aP.row.h⟩
instance (priority:=low) gm.ofMod3 {w0:World}{L:List bh}{x:bm}[h:nV w0 L x]:gm w0 L x.ia 3 ke x.ins:=⟨fun w hp=>(h.h w hp).ins.row.h⟩
instance (priority:=low) gm.ofMod4 {w0:World}{L:List bh}{x:bm}[h:nV w0 L x]:gm w0 L x.ma 4 p9 x.ms:=⟨fun w hp=>(h.h w hp).ms.h⟩
class Lf (i:Nat)(R:List qJ):Prop where
 h:i<R.length
instance gm.ofMod5 {w0:World}{L:List bh}{x:bm}{i:Nat}[h:nV w0 L x][k:Lf i x.aP]:gm w0 L (x.aP.getD i default).oa 3 kf (x.aP.getD i default).ops:=⟨fun w hp=>((h.h w hp).aP.at_ k.h).h⟩
theorem DB {w0 w:World}{L:List bh}(h:Hp w0 w L):Hp w0 w (tY []::L):=Hp.pack (Rs:=[]) h
theorem DC {w0 w:World}{L:List bh}{a:Option Addr}{c:Nat}{R:List qJ}(h:Hp w0 w (wy a c R::L)):Hp w0 w (rO 75 2 BN a c R::tY R::L):=h.unpack
theorem qK {w0 w:World}{L:List bh}{a:Option Addr}{c:Nat}{R:List qJ}(h:Hp w0 w (rO 75 2 BN a c R::tY R::L)):Hp w0 w (wy a c R::L):=Hp.pack (Rs:=[_,_]) h
theorem H5 {w0 w:World}{L:List bh}{a:Option Addr}{c:Nat}{R:List dO}(h:Hp w0 w (kP a c R::L)):Hp w0 w (rO 150 3 ke a c R::fz R::L):=h.unpack
theorem ry {w0 w:World}{L:List bh}{a:Option Addr}{c:Nat}{R:List dO}(h:Hp w0 w (rO 150 3 ke a c R::fz R::L)):Hp w0 w (kP a c R::L):=Hp.pack (Rs:=[_,_]) h
theorem AA {w0 w:World}{L:List bh}{x:bm}(h:Hp w0 w (mS x::L)):Hp w0 w (rO 66 3 n7 x.sa x.sc x.sg::wy x.aa x.ac x.aP::kP x.ia x.ic x.ins::rO 70 4 p9 x.ma x.mc x.ms::L):=h.unpack
theorem oH {w0 w:World}{L:List bh}{x:bm}(h:Hp w0 w (rO 66 3 n7 x.sa x.sc x.sg::wy x.aa x.ac x.aP::kP x.ia x.ic x.ins::rO 70 4 p9 x.ma x.mc x.ms::L)):Hp w0 w (mS x::L):=Hp.pack (Rs:=[_,_,_,_]) h
def Fk (s:pQ):Prop:=da s.kind/\da s.width/\da s.init
def JW (s:yh):Prop:=da s.addr/\da s.data/\da s.write/\da s.out
def sU (o:dK):Prop:=da o.kind/\da o.a/\da o.b
structure qL (n:aQ):Prop where
 sg:n.sg.length<=1048576
 aP:n.aP.length<=1048576
 ops:∀i,i<n.aP.length->(n.aP.getD i default).ops.length<=1048576
 ins:n.ins.length<=1048576
 prt:∀i,i<n.ins.length->(n.ins.getD i default).ins.length<=1048576
 ms:n.ms.length<=1048576
structure qM (n:aQ):Prop where
 sg:∀i,i<n.sg.length->Fk (n.sg.getD i default)
 tg:∀i,i<n.aP.length->da (n.aP.getD i default).tg
 ops:∀i,i<n.aP.length->∀j,j<(n.aP.getD i default).ops.length->sU ((n.aP.getD i default).ops.getD j default)
 ms:∀i,i<n.ms.length->JW (n.ms.getD i default)
end Go.Xw
end
