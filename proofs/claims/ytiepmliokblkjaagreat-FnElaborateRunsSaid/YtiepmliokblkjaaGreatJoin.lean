/- Texts that belong together; each under its stated conditions. -/
import Derived.Test.YtiepmliokblkjaaGreatBrf
import Derived.Test.YtiepmliokblkjaaGreatDes6
import Derived.Test.YtiepmliokblkjaaGreatHeap
set_option linter.all false
section
namespace Go.Xw
def CK (A:List Int):Prop:=∀i,i<A.length->0<=A.getD i default/\A.getD i default<=1000000
def me:List Int:=[4,5,6,7,8,9,10,11,12,7,12]
theorem KY {j:Nat}(h:j<me.length):(0<=me.getD j default/\me.getD j default<=12)/\1<=jx (me.getD j default)/\jx (me.getD j default)<=3:=by
 have key:∀j:Fin 11,(0<=me.getD j.val default/\me.getD j.val default<=12)/\1<=jx (me.getD j.val default)/\jx (me.getD j.val default)<=3:=by decide
 exact key ⟨j,h⟩
def uw (m:Int):Int:=if m<1 then 1 else m
theorem cV {k a b:Int}(hk:0<=k/\k<=12)(ha:0<=a/\a<=1000000)(hb:0<=b/\b<=1000000):∀o,o∈[(⟨k,a,b⟩:dK)]->sU o:=fun o ho=>by
 rw[List.mem_singleton] at ho
 subst ho
 unfold sU da
 dsimp only
 omega
end Go.Xw
namespace Go.Proofs
open Go.Xw
set_option maxRecDepth 100000
set_option maxHeartbeats 4000000
attribute [local irreducible] ax aE
theorem Ix {p:Nat}{a:Option Addr}{n c:Nat}{code:List Int}(hn:code.length=n)(A:List Int)(va:Option Addr)(vc:Nat)(hA:CK A)(Xy:A.length<=100000):∀K:Nat,∀{w0 w:World} {L:List bh} (m:Int),m<=K->0<=m->m<=100->Rd w0 a 1 xt code->[gm w0 L va 1 eI A]->Hp w0 w (fv p a n c::L)->
  bN Tryz.prog 194 [.pointer (some ⟨p,0,none⟩),.slice va A.length vc,.int .i64 m] w (fun v w'=>∃(O:List dK) (oa:Option Addr) (oc:Nat),(v= .slice oa O.length oc/\(O.length:Int)<=uw m/\∀o,o∈O->sU o)/\Hp w0 w' (rO 132 3 kf oa oc O::fv p a n c::L)):=by
 intro K
 induction K using Nat.strongRecOn with
 |ind K ih=>
 intro w0 w L m hmK EC hm100 hR Wn hp
 have Hj:=(Wn.h w hp.drop).1
 refine vJ Tryz.Rv ?_;intro C
 (first|apply fx|apply cf)<;>intro h4 e<;>rw[e]<;>clear e;all_goals((repeat(refine aG ?_;first|refine aO ?_|refine ba ?_)))
 ·refine aN ?_
  refine cy Tryz.func62 (cg hR hn hp 8) ?_;rintro _ w ⟨z,⟨rfl,_,hz⟩,hp⟩;refine az ?_
  have hz:=hz (by decide)
  apply ae<;>intro k0
  ·refine aN ?_
   refine cy Tryz.func62 (cg hR hn hp 16) ?_;rintro _ w ⟨z2,⟨rfl,_,Ch⟩,hp⟩;refine az ?_
   have Ch:=Ch (by decide)
   refine lX hp kf [(⟨0,z2,0⟩:dK)] ?_;intro w bl hx hp;refine az ?_;refine aq ?_
   exact⟨_,_,_,⟨rfl,by unfold uw;show(1:Int)<=_;split<;>omega,cV (by omega) (by omega) (by omega)⟩,hp⟩
  ·refine aM ?_
   apply ae<;>intro k1
   ·refine aN ?_
    refine cy Tryz.func188 (oS hR hn hp 3) ?_;rintro _ w ⟨b,rfl,hp⟩;refine az ?_
    cases b
    ·refine aM ?_
     apply ae<;>intro h0
     ·refine aN ?_
      refine lX hp kf [(⟨0,1,0⟩:dK)] ?_;intro w bl hx hp;refine az ?_;refine aq ?_
      exact⟨_,_,_,⟨rfl,by unfold uw;show(1:Int)<=_;split<;>omega,cV (by omega) (by omega) (by omega)⟩,hp⟩
     ·refine aM ?_
      have fD:va≠none:=Hj (by omega)
      refine cy Tryz.func62 (cg hR hn hp A.length) ?_;rintro _ w ⟨z3,⟨rfl,_,pG⟩,hp⟩;refine az ?_;refine ik hp ?_
      have pG:=pG (by omega)
      skip
      have KZ:=hA z3.toNat (by omega)
      refine lX hp kf [(⟨2,A.getD z3.toNat default,0⟩:dK)] ?_;intro w bl hx hp;refine az ?_;refine aq ?_
      exact⟨_,_,_,⟨rfl,by unfold uw;show(1:Int)<=_;split<;>omega,cV (by omega) (by omega) (by omega)⟩,hp⟩
    ·refine aN ?_
     refine lX hp kf [(⟨1,0,0⟩:dK)] ?_;intro w bl hx hp;refine az ?_;refine aq ?_
     exact⟨_,_,_,⟨rfl,by unfold uw;show(1:Int)<=_;split<;>omega,cV (by omega) (by omega) (by omega)⟩,hp⟩
   ·refine aM ?_
    apply ae<;>intro k2
    ·refine aN ?_
     apply ae<;>intro WE
     ·refine aN ?_
      apply ae<;>intro h0
      ·refine aN ?_
       have fD:va≠none:=Hj (by omega)
       refine fR hp ?_
       refine j8 Tryz.func62 (fun F w hp=> ?_);refine bN.mono (gk hR hn hp A.length) ?_;rintro _ w ⟨z3,⟨rfl,_,pG⟩,hp⟩;refine⟨fun _=>hp.pre,_,hp,?_⟩;clear hp;refine cX ?_;refine tE rfl (by omega) (by omega) rfl rfl rfl ?_
       have pG:=pG (by omega)
       skip
       have KZ:=hA z3.toNat (by omega)
       refine j8 Tryz.func62 (fun F w hp=> ?_);refine bN.mono (gk hR hn hp 2) ?_;rintro _ w ⟨z4,⟨rfl,_,FI⟩,hp⟩;refine⟨fun _=>hp.pre,_,hp,?_⟩;clear hp;refine cX ?_
       have FI:=FI (by decide)
       refine pO kf [(⟨3,A.getD z3.toNat default,z4⟩:dK)] rfl rfl rfl rfl (s:=3) rfl (by decide) (by infer_instance) (by rfl) (by rfl) (by rfl) (by decide) ?_;intro bl;refine cX ?_
       refine dc ?_;intro w hp C;refine bL ?_;refine aq ?_
       exact⟨_,_,_,⟨rfl,by unfold uw;show(1:Int)<=_;split<;>omega,cV (by omega) (by omega) (by omega)⟩,hp⟩
      ·refine aM ?_
       apply ae<;>intro h0
       ·refine aN ?_
        refine lX hp kf [(⟨0,1,0⟩:dK)] ?_;intro w bl hx hp;refine az ?_;refine aq ?_
        exact⟨_,_,_,⟨rfl,by unfold uw;show(1:Int)<=_;split<;>omega,cV (by omega) (by omega) (by omega)⟩,hp⟩
       ·refine aM ?_
        have fD:va≠none:=Hj (by omega)
        refine cy Tryz.func62 (cg hR hn hp A.length) ?_;rintro _ w ⟨z3,⟨rfl,_,pG⟩,hp⟩;refine az ?_;refine ik hp ?_
        have pG:=pG (by omega)
        skip
        have KZ:=hA z3.toNat (by omega)
        refine lX hp kf [(⟨2,A.getD z3.toNat default,0⟩:dK)] ?_;intro w bl hx hp;refine az ?_;refine aq ?_
        exact⟨_,_,_,⟨rfl,by unfold uw;show(1:Int)<=_;split<;>omega,cV (by omega) (by omega) (by omega)⟩,hp⟩
     ·exact absurd k2 WE
    ·refine aM ?_
     apply ae<;>intro k3
     ·refine aN ?_
      apply ae<;>intro h0
      ·refine aN ?_
       have fD:va≠none:=Hj (by omega)
       refine fR hp ?_
       refine j8 Tryz.func62 (fun F w hp=> ?_);refine bN.mono (gk hR hn hp A.length) ?_;rintro _ w ⟨z3,⟨rfl,_,pG⟩,hp⟩;refine⟨fun _=>hp.pre,_,hp,?_⟩;clear hp;refine cX ?_;refine tE rfl (by omega) (by omega) rfl rfl rfl ?_
       have pG:=pG (by omega)
       skip
       have KZ:=hA z3.toNat (by omega)
       refine j8 Tryz.func62 (fun F w hp=> ?_);refine bN.mono (gk hR hn hp 2) ?_;rintro _ w ⟨z4,⟨rfl,_,FI⟩,hp⟩;refine⟨fun _=>hp.pre,_,hp,?_⟩;clear hp;refine cX ?_
       have FI:=FI (by decide)
       refine pO kf [(⟨3,A.getD z3.toNat default,z4⟩:dK)] rfl rfl rfl rfl (s:=3) rfl (by decide) (by infer_instance) (by rfl) (by rfl) (by rfl) (by decide) ?_;intro bl;refine cX ?_
       refine dc ?_;intro w hp C;refine bL ?_;refine aq ?_
       exact⟨_,_,_,⟨rfl,by unfold uw;show(1:Int)<=_;split<;>omega,cV (by omega) (by omega) (by omega)⟩,hp⟩
      ·refine aM ?_
       apply ae<;>intro h0
       ·refine aN ?_
        refine lX hp kf [(⟨0,1,0⟩:dK)] ?_;intro w bl hx hp;refine az ?_;refine aq ?_
        exact⟨_,_,_,⟨rfl,by unfold uw;show(1:Int)<=_;split<;>omega,cV (by omega) (by omega) (by omega)⟩,hp⟩
       ·refine aM ?_
        have fD:va≠none:=Hj (by omega)
        refine cy Tryz.func62 (cg hR hn hp A.length) ?_;rintro _ w ⟨z3,⟨rfl,_,pG⟩,hp⟩;refine az ?_;refine ik hp ?_
        have pG:=pG (by omega)
        skip
        have KZ:=hA z3.toNat (by omega)
        refine lX hp kf [(⟨2,A.getD z3.toNat default,0⟩:dK)] ?_;intro w bl hx hp;refine az ?_;refine aq ?_
        exact⟨_,_,_,⟨rfl,by unfold uw;show(1:Int)<=_;split<;>omega,cV (by omega) (by omega) (by omega)⟩,hp⟩
     ·refine aM ?_
      apply ae<;>intro h0
      ·refine aN ?_
       refine lX hp kf [(⟨0,1,0⟩:dK)] ?_;intro w bl hx hp;refine az ?_;refine aq ?_
       exact⟨_,_,_,⟨rfl,by unfold uw;show(1:Int)<=_;split<;>omega,cV (by omega) (by omega) (by omega)⟩,hp⟩
      ·refine aM ?_
       have fD:va≠none:=Hj (by omega)
       refine cy Tryz.func62 (cg hR hn hp A.length) ?_;rintro _ w ⟨z3,⟨rfl,_,pG⟩,hp⟩;refine az ?_;refine ik hp ?_
       have pG:=pG (by omega)
       skip
       have KZ:=hA z3.toNat (by omega)
       refine lX hp kf [(⟨2,A.getD z3.toNat default,0⟩:dK)] ?_;intro w bl hx hp;refine az ?_;refine aq ?_
       exact⟨_,_,_,⟨rfl,by unfold uw;show(1:Int)<=_;split<;>omega,cV (by omega) (by omega) (by omega)⟩,hp⟩
 ·refine cy Tryz.func188 (oS hR hn hp 3) ?_;rintro _ w ⟨b,rfl,hp⟩;refine az ?_
  cases b
  ·refine aM ?_;refine gG hp ?_;intro w _ hx hp;refine az ?_
   refine cy Tryz.func187 (pK hR hn hp.f1 _ _ _ (by decide) (by decide)) ?_;rintro _ w ⟨z,⟨rfl,j,hj,hz⟩,hp⟩;refine az ?_
   have Xz:=KY (j:=j) hj
   change(0<=[4,5,6,7,8,9,10,11,12,7,12].getD j default/\[4,5,6,7,8,9,10,11,12,7,12].getD j default<=12)/\1<=jx ([4,5,6,7,8,9,10,11,12,7,12].getD j default)/\jx ([4,5,6,7,8,9,10,11,12,7,12].getD j default)<=3 at Xz
   rw[<-hz] at Xz
   have hz12:=Xz.1
   obtain⟨ar,Ml⟩:∃ar,ar=jx z:=⟨_,rfl⟩
   rw[<-Ml] at Xz
   obtain⟨q,hq⟩:∃q,q=(m-1)/ar:=⟨_,rfl⟩
   have hqb:1<=q/\q<=m-1/\ar*q<=m-1:=by
    have hc:ar=1\/ar=2\/ar=3:=by omega
    rcases hc with h|h|h<;>rw[hq,h]<;>omega
   have hmq:uw q=q:=by unfold uw;rw[if_neg (by omega)]
   refine lX hp kf [(⟨z,0,0⟩:dK)] ?_;intro w b8 hx hp;refine az ?_
   refine bQ hp Tryz.func139 (gj z _) ?_;intro w hx hp
   rw[<-Ml]
   have hp:=hp.f1
   refine jv [0,1,2,8,9,10] (fun(k:Nat) (O:List dK) (oa:Option Addr) (oc:Nat)=>[(0,.pointer (some ⟨p,0,none⟩)),(1,.slice va A.length vc),(2,.int .i64 m),(8,.slice oa O.length oc),(9,.int .i64 ar),(10,.int .i64 (k:Int))])
    (fun k O oa oc w'=>((k:Int)<=ar/\(O.length:Int)<=1+(k:Int)*q/\∀o,o∈O->sU o)/\Hp w0 w' (fv p a n c::rO 132 3 kf oa oc O::L)) (fun k _ _ _=>ar.toNat-k) 0 [⟨z,0,0⟩] _ _ rfl ⟨⟨by omega,by rw[show((0:Nat):Int)*q=0 from Int.zero_mul _];show(1:Int)<=1+0;decide,cV (by omega) (by omega) (by omega)⟩,hp.f2.drop⟩ ?_
   clear hp
   rintro k O oa oc w1 ⟨⟨BA,p6,hO⟩,hp⟩ IH C
   refine bL ?_
   apply ae<;>intro bD
   ·refine aN ?_
    rw[<-hq]
    refine cy Tryz.func194 (ih q.toNat (by omega) q (by omega) (by omega) (by omega) hR hp) ?_
    rintro _ w ⟨O2,ob,od,⟨rfl,sb,yP⟩,hp⟩
    rw[hmq] at sb
    have hkq:((k:Nat):Int)*q<=3*q:=Int.mul_le_mul_of_nonneg_right (by omega) (by omega)
    have hkq1:(((k+1:Nat):Nat):Int)*q=((k:Nat):Int)*q+q:=by rw[Int.natCast_add,Int.add_mul];simp
    refine az ?_
    refine gT hp ?_;intro o2 c2 w hp bZ;refine az ?_
    refine IH (k+1) (O++O2) o2 c2 _ _ _ (by omega) rfl ⟨⟨by omega,by rw[hkq1,List.length_append];omega,fun o ho=> ?_⟩,hp.drop⟩
    rcases List.mem_append.1 ho with ho|ho
    ·exact hO o ho
    ·exact yP o ho
   ·refine aM ?_;refine aq ?_
    obtain rfl:(k:Int)=ar:=by omega
    exact⟨O,oa,oc,⟨rfl,by unfold uw;rw[if_neg (by omega)];omega,hO⟩,hp.f1⟩
  ·refine aN ?_
   refine cy Tryz.func62 (cg hR hn hp 8) ?_;rintro _ w ⟨z,⟨rfl,_,hz⟩,hp⟩;refine az ?_
   have hz:=hz (by decide)
   apply ae<;>intro k0
   ·refine aN ?_
    refine cy Tryz.func62 (cg hR hn hp 16) ?_;rintro _ w ⟨z2,⟨rfl,_,Ch⟩,hp⟩;refine az ?_
    have Ch:=Ch (by decide)
    refine lX hp kf [(⟨0,z2,0⟩:dK)] ?_;intro w bl hx hp;refine az ?_;refine aq ?_
    exact⟨_,_,_,⟨rfl,by unfold uw;show(1:Int)<=_;split<;>omega,cV (by omega) (by omega) (by omega)⟩,hp⟩
   ·refine aM ?_
    apply ae<;>intro k1
    ·refine aN ?_
     refine cy Tryz.func188 (oS hR hn hp 3) ?_;rintro _ w ⟨b,rfl,hp⟩;refine az ?_
     cases b
     ·refine aM ?_
      apply ae<;>intro h0
      ·refine aN ?_
       refine lX hp kf [(⟨0,1,0⟩:dK)] ?_;intro w bl hx hp;refine az ?_;refine aq ?_
       exact⟨_,_,_,⟨rfl,by unfold uw;show(1:Int)<=_;split<;>omega,cV (by omega) (by omega) (by omega)⟩,hp⟩
      ·refine aM ?_
       have fD:va≠none:=Hj (by omega)
       refine cy Tryz.func62 (cg hR hn hp A.length) ?_;rintro _ w ⟨z3,⟨rfl,_,pG⟩,hp⟩;refine az ?_;refine ik hp ?_
       have pG:=pG (by omega)
       skip
       have KZ:=hA z3.toNat (by omega)
       refine lX hp kf [(⟨2,A.getD z3.toNat default,0⟩:dK)] ?_;intro w bl hx hp;refine az ?_;refine aq ?_
       exact⟨_,_,_,⟨rfl,by unfold uw;show(1:Int)<=_;split<;>omega,cV (by omega) (by omega) (by omega)⟩,hp⟩
     ·refine aN ?_
      refine lX hp kf [(⟨1,0,0⟩:dK)] ?_;intro w bl hx hp;refine az ?_;refine aq ?_
      exact⟨_,_,_,⟨rfl,by unfold uw;show(1:Int)<=_;split<;>omega,cV (by omega) (by omega) (by omega)⟩,hp⟩
    ·refine aM ?_
     apply ae<;>intro k2
     ·refine aN ?_
      apply ae<;>intro WE
      ·refine aN ?_
       apply ae<;>intro h0
       ·refine aN ?_
        have fD:va≠none:=Hj (by omega)
        refine fR hp ?_
        refine j8 Tryz.func62 (fun F w hp=> ?_);refine bN.mono (gk hR hn hp A.length) ?_;rintro _ w ⟨z3,⟨rfl,_,pG⟩,hp⟩;refine⟨fun _=>hp.pre,_,hp,?_⟩;clear hp;refine cX ?_;refine tE rfl (by omega) (by omega) rfl rfl rfl ?_
        have pG:=pG (by omega)
        skip
        have KZ:=hA z3.toNat (by omega)
        refine j8 Tryz.func62 (fun F w hp=> ?_);refine bN.mono (gk hR hn hp 2) ?_;rintro _ w ⟨z4,⟨rfl,_,FI⟩,hp⟩;refine⟨fun _=>hp.pre,_,hp,?_⟩;clear hp;refine cX ?_
        have FI:=FI (by decide)
        refine pO kf [(⟨3,A.getD z3.toNat default,z4⟩:dK)] rfl rfl rfl rfl (s:=3) rfl (by decide) (by infer_instance) (by rfl) (by rfl) (by rfl) (by decide) ?_;intro bl;refine cX ?_
        refine dc ?_;intro w hp C;refine bL ?_;refine aq ?_
        exact⟨_,_,_,⟨rfl,by unfold uw;show(1:Int)<=_;split<;>omega,cV (by omega) (by omega) (by omega)⟩,hp⟩
       ·refine aM ?_
        apply ae<;>intro h0
        ·refine aN ?_
         refine lX hp kf [(⟨0,1,0⟩:dK)] ?_;intro w bl hx hp;refine az ?_;refine aq ?_
         exact⟨_,_,_,⟨rfl,by unfold uw;show(1:Int)<=_;split<;>omega,cV (by omega) (by omega) (by omega)⟩,hp⟩
        ·refine aM ?_
         have fD:va≠none:=Hj (by omega)
         refine cy Tryz.func62 (cg hR hn hp A.length) ?_;rintro _ w ⟨z3,⟨rfl,_,pG⟩,hp⟩;refine az ?_;refine ik hp ?_
         have pG:=pG (by omega)
         skip
         have KZ:=hA z3.toNat (by omega)
         refine lX hp kf [(⟨2,A.getD z3.toNat default,0⟩:dK)] ?_;intro w bl hx hp;refine az ?_;refine aq ?_
         exact⟨_,_,_,⟨rfl,by unfold uw;show(1:Int)<=_;split<;>omega,cV (by omega) (by omega) (by omega)⟩,hp⟩
      ·exact absurd k2 WE
     ·refine aM ?_
      apply ae<;>intro k3
      ·refine aN ?_
       apply ae<;>intro h0
       ·refine aN ?_
        have fD:va≠none:=Hj (by omega)
        refine fR hp ?_
        refine j8 Tryz.func62 (fun F w hp=> ?_);refine bN.mono (gk hR hn hp A.length) ?_;rintro _ w ⟨z3,⟨rfl,_,pG⟩,hp⟩;refine⟨fun _=>hp.pre,_,hp,?_⟩;clear hp;refine cX ?_;refine tE rfl (by omega) (by omega) rfl rfl rfl ?_
        have pG:=pG (by omega)
        skip
        have KZ:=hA z3.toNat (by omega)
        refine j8 Tryz.func62 (fun F w hp=> ?_);refine bN.mono (gk hR hn hp 2) ?_;rintro _ w ⟨z4,⟨rfl,_,FI⟩,hp⟩;refine⟨fun _=>hp.pre,_,hp,?_⟩;clear hp;refine cX ?_
        have FI:=FI (by decide)
        refine pO kf [(⟨3,A.getD z3.toNat default,z4⟩:dK)] rfl rfl rfl rfl (s:=3) rfl (by decide) (by infer_instance) (by rfl) (by rfl) (by rfl) (by decide) ?_;intro bl;refine cX ?_
        refine dc ?_;intro w hp C;refine bL ?_;refine aq ?_
        exact⟨_,_,_,⟨rfl,by unfold uw;show(1:Int)<=_;split<;>omega,cV (by omega) (by omega) (by omega)⟩,hp⟩
       ·refine aM ?_
        apply ae<;>intro h0
        ·refine aN ?_
         refine lX hp kf [(⟨0,1,0⟩:dK)] ?_;intro w bl hx hp;refine az ?_;refine aq ?_
         exact⟨_,_,_,⟨rfl,by unfold uw;show(1:Int)<=_;split<;>omega,cV (by omega) (by omega) (by omega)⟩,hp⟩
        ·refine aM ?_
         have fD:va≠none:=Hj (by omega)
         refine cy Tryz.func62 (cg hR hn hp A.length) ?_;rintro _ w ⟨z3,⟨rfl,_,pG⟩,hp⟩;refine az ?_;refine ik hp ?_
         have pG:=pG (by omega)
         skip
         have KZ:=hA z3.toNat (by omega)
         refine lX hp kf [(⟨2,A.getD z3.toNat default,0⟩:dK)] ?_;intro w bl hx hp;refine az ?_;refine aq ?_
         exact⟨_,_,_,⟨rfl,by unfold uw;show(1:Int)<=_;split<;>omega,cV (by omega) (by omega) (by omega)⟩,hp⟩
      ·refine aM ?_
       apply ae<;>intro h0
       ·refine aN ?_
        refine lX hp kf [(⟨0,1,0⟩:dK)] ?_;intro w bl hx hp;refine az ?_;refine aq ?_
        exact⟨_,_,_,⟨rfl,by unfold uw;show(1:Int)<=_;split<;>omega,cV (by omega) (by omega) (by omega)⟩,hp⟩
       ·refine aM ?_
        have fD:va≠none:=Hj (by omega)
        refine cy Tryz.func62 (cg hR hn hp A.length) ?_;rintro _ w ⟨z3,⟨rfl,_,pG⟩,hp⟩;refine az ?_;refine ik hp ?_
        have pG:=pG (by omega)
        skip
        have KZ:=hA z3.toNat (by omega)
        refine lX hp kf [(⟨2,A.getD z3.toNat default,0⟩:dK)] ?_;intro w bl hx hp;refine az ?_;refine aq ?_
        exact⟨_,_,_,⟨rfl,by unfold uw;show(1:Int)<=_;split<;>omega,cV (by omega) (by omega) (by omega)⟩,hp⟩
theorem Eo {w0 w:World}{L:List bh}{p:Nat}{a:Option Addr}{n c:Nat}{code:List Int}(hR:Rd w0 a 1 xt code)(hn:code.length=n)(A:List Int)(va:Option Addr)(vc:Nat)(hA:CK A)(Xy:A.length<=100000)(x:bm)(s:Int)(hx:x.aP.length<=100000)[gm w0 L va 1 eI A][gm w0 L x.aa 2 BN x.aP](hp:Hp w0 w (fv p a n c::L)):
  bN Tryz.prog 189 [.pointer (some ⟨p,0,none⟩),x.v,.int .i64 s,.slice va A.length vc] w (fun v w'=>∃(y:qJ) (aa:Option Addr) (ac:Nat),(v=({x with aP:=x.aP++[y],aa:=aa,ac:=ac}:bm).v/\y.ops.length<=9/\∀o,o∈y.ops->sU o)/\Hp w0 w' (fv p a n c::rO 75 2 BN aa ac (x.aP++[y])::rO 132 3 kf y.oa y.oc y.ops::L)):=by
 refine vJ Tryz.Rq ?_;intro C
 refine bP hp ?_;intro w b5 hx hp;refine az ?_
 refine bP hp ?_;intro w b8 hx hp;refine az ?_
 refine lX hp BN ([]:List qJ) ?_;intro w b9 hx hp;refine az ?_;refine aI hp ?_
 refine gT hp ?_;intro a1 c1 w hp bZ;refine az ?_
 rw[List.nil_append] at hp⊢
 refine cy Tryz.func194 ((Ix hn A va vc hA Xy 9 9 (by decide) (by decide) (by decide) hR hp.f3)) ?_;rintro _ w ⟨O,ob,od,⟨rfl,hl,hO⟩,hp⟩;refine az ?_
 have hl9:O.length<=9:=by unfold uw at hl;rw[if_neg (by decide)] at hl;omega
 refine lX hp BN [(⟨s,O,ob,od⟩:qJ)] ?_;intro w bl hx hp;refine az ?_
 refine gT hp ?_;intro a2 c2 w hp bZ;refine az ?_;(repeat(first|(refine ah ?_;refine aI hp ?_)|(refine aH ?_;(first|refine iE hp ?_|refine aW hp ?_);intro w hp;refine az ?_)|(refine dA ?_;refine iD hp rfl ?_)))
 exact⟨⟨s,O,ob,od⟩,a2,c2,⟨rfl,hl9,hO⟩,((hp.drop.f2.f2).f3.drop).f3.drop⟩
end Go.Proofs
end
section
namespace Go.Xw
open Go.RowKit
section
variable {S:ak} {sz:Nat} {R:Value->World->Prop} {C:World->Prop} {w:World}
theorem Cv {X:Type}(je:List Nat)(E:X->Env)(I:X->World->Prop){K:List Item}{g:G}
  (h:(∀(x:X) (j6:Env) (w':World) (C:World->Prop),et j6 je=some (E x)->I x w'->ax S sz R C w' (.code K j6))->ax S sz R C w g)
  (body:∀(x:X) (w:World),I x w->∀C,ax S sz R C w (.code K (E x))):ax S sz R C w g:=
 h fun x _ w' C he hI a ha=>body x w' hI C a (ha.prune he)
theorem oT {b:Bool}{k1 K:List Item}{env:Env}[hS:S.Ok](hb:b=false)(hg:ax S sz R C w (.code K env)):ax S sz R C w (.cond b k1 (.code .skip::K) env):=by
 subst hb;exact(dt hS 1 (.code (.code .skip::K) env) [] (.code K env) [] rfl trivial trivial hg).1
theorem Iy {b:Bool}{id:Nat}{k1 k K:List Item}{env:Env}[hS:S.Ok](hb:b=false)(hk:exitTo id k=some K)(hg:ax S sz R C w (.code K env)):ax S sz R C w (.cond b k1 (.code (.exit id)::k) env):=by
 subst hb;exact(dt hS 1 (.code (.code (.exit id)::k) env) [] (.code K env) [] (by show(match exitTo id k with|some k'=>run S sz 0 (.code k' env) []|none=>_)=_;rw[hk];rfl) trivial trivial hg).1
theorem Ep {q:Bool}{ops:Array Oper}{l:List Oper}{k K:List Item}{env j6:Env}[hS:S.Ok](hp:q=true->∃pre,ops.toList=pre++l)(h:run S sz 1 (.ops q ops l k env) []=(.code K j6,[]))(hg:ax S sz R C w (.code K j6)):ax S sz R C w (.ops q ops l k env):=
 (dt hS 1 _ [] _ [] h hp trivial hg).1
theorem SG {w0:World}{F:List bh}{b o:Nat}{tb t:TypeId}{cs:List Value}{v:Value}{d:Nat}{ops:Array Oper}{rest:List Oper}{k K:List Item}{env j6:Env}[hS:S.Ok](hp:Hp w0 w F)[hb:Bp w0 F b tb cs](hv:rf S.tt t cs o=some v)
  (h:run S sz 1 (.ops false ops rest k ((d,v)::env)) []=(.code K j6,[])) (hg:ax S sz R C w (.code K j6)):ax S sz R C w (.act (.load t ⟨b,o,none⟩) ⟨false,ops,rest,some d,k,env⟩):=
 xB rfl (by simp[Action.lO,lV hS.tt (hb.h w hp) hv]) (Ep mF h hg)
end
end Go.Xw
end
