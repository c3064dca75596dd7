/- Texts that belong together; each under its stated conditions. -/
import Derived.Test.YtiepmliokblkjaaGreatBrf
import Derived.Test.YtiepmliokblkjaaGreatDes6
import Derived.Test.YtiepmliokblkjaaGreatHeap
set_option linter.all false
section
namespace Go.Xw
def CF (A:List Int):Prop:=∀i,i<A.length->0<=A.getD i default/\A.getD i default<=1000000
def l9:List Int:=[4,5,6,7,8,9,10,11,12,7,12]
theorem KX {j:Nat}(h:j<l9.length):(0<=l9.getD j default/\l9.getD j default<=12)/\1<=jx (l9.getD j default)/\jx (l9.getD j default)<=3:=by
 have key:∀j:Fin 11,(0<=l9.getD j.val default/\l9.getD j.val default<=12)/\1<=jx (l9.getD j.val default)/\jx (l9.getD j.val default)<=3:=by decide
 exact key ⟨j,h⟩
def ux (m:Int):Int:=if m<1 then 1 else m
theorem cV {k a b:Int}(hk:0<=k/\k<=12)(ha:0<=a/\a<=1000000)(hb:0<=b/\b<=1000000):∀o,o∈[(⟨k,a,b⟩:dJ)]->sU o:=fun o ho=>by
 rw[List.mem_singleton] at ho
 subst ho
 unfold sU da
 dsimp only
 omega
end Go.Xw
namespace Go.Proofs
open Go.Xw
set_option maxRecDepth 100000
set_option maxHeartbeats 4000000
attribute [local irreducible] ax aE
theorem Iw {p:Nat}{a:Option Addr}{n c:Nat}{code:List Int}(hn:code.length=n)(A:List Int)(va:Option Addr)(vc:Nat)(hA:CF A)(Xu:A.length<=100000):∀K:Nat,∀{w0 w:World} {L:List bg} (m:Int),m<=K->0<=m->m<=100->Rd w0 a 1 xp code->[gm w0 L va 1 eI A]->Hp w0 w (fv p a n c::L)->
  bN Tryz.prog 194 [.pointer (some ⟨p,0,none⟩),.slice va A.length vc,.int .i64 m] w (fun v w'=>∃(O:List dJ) (oa:Option Addr) (oc:Nat),(v= .slice oa O.length oc/\(O.length:Int)<=ux m/\∀o,o∈O->sU o)/\Hp w0 w' (rO 132 3 kg oa oc O::fv p a n c::L)):=by
 intro K
 induction K using Nat.strongRecOn with
 |ind K ih=>
 intro w0 w L m hmK EA hm100 hR Wj hp
 have Hi:=(Wj.h w hp.drop).1
 refine vI Tryz.Rr ?_;intro C
 (first|apply fx|apply cf)<;>intro h4 e<;>rw[e]<;>clear e;all_goals((repeat(refine aG ?_;first|refine aO ?_|refine ba ?_)))
 ·refine aN ?_
  refine cx Tryz.func62 (cg hR hn hp 8) ?_;rintro _ w ⟨z,⟨rfl,_,hz⟩,hp⟩;refine az ?_
  have hz:=hz (by decide)
  apply ae<;>intro k0
  ·refine aN ?_
   refine cx Tryz.func62 (cg hR hn hp 16) ?_;rintro _ w ⟨z2,⟨rfl,_,Cc⟩,hp⟩;refine az ?_
   have Cc:=Cc (by decide)
   refine lW hp kg [(⟨0,z2,0⟩:dJ)] ?_;intro w bl hx hp;refine az ?_;refine aq ?_
   exact⟨_,_,_,⟨rfl,by unfold ux;show(1:Int)<=_;split<;>omega,cV (by omega) (by omega) (by omega)⟩,hp⟩
  ·refine aM ?_
   apply ae<;>intro k1
   ·refine aN ?_
    refine cx Tryz.func188 (oS hR hn hp 3) ?_;rintro _ w ⟨b,rfl,hp⟩;refine az ?_
    cases b
    ·refine aM ?_
     apply ae<;>intro h0
     ·refine aN ?_
      refine lW hp kg [(⟨0,1,0⟩:dJ)] ?_;intro w bl hx hp;refine az ?_;refine aq ?_
      exact⟨_,_,_,⟨rfl,by unfold ux;show(1:Int)<=_;split<;>omega,cV (by omega) (by omega) (by omega)⟩,hp⟩
     ·refine aM ?_
      have fD:va≠none:=Hi (by omega)
      refine cx Tryz.func62 (cg hR hn hp A.length) ?_;rintro _ w ⟨z3,⟨rfl,_,pH⟩,hp⟩;refine az ?_;refine ik hp ?_
      have pH:=pH (by omega)
      skip
      have KY:=hA z3.toNat (by omega)
      refine lW hp kg [(⟨2,A.getD z3.toNat default,0⟩:dJ)] ?_;intro w bl hx hp;refine az ?_;refine aq ?_
      exact⟨_,_,_,⟨rfl,by unfold ux;show(1:Int)<=_;split<;>omega,cV (by omega) (by omega) (by omega)⟩,hp⟩
    ·refine aN ?_
     refine lW hp kg [(⟨1,0,0⟩:dJ)] ?_;intro w bl hx hp;refine az ?_;refine aq ?_
     exact⟨_,_,_,⟨rfl,by unfold ux;show(1:Int)<=_;split<;>omega,cV (by omega) (by omega) (by omega)⟩,hp⟩
   ·refine aM ?_
    apply ae<;>intro k2
    ·refine aN ?_
     apply ae<;>intro WB
     ·refine aN ?_
      apply ae<;>intro h0
      ·refine aN ?_
       have fD:va≠none:=Hi (by omega)
       refine fQ hp ?_
       refine j9 Tryz.func62 (fun F w hp=> ?_);refine bN.mono (gk hR hn hp A.length) ?_;rintro _ w ⟨z3,⟨rfl,_,pH⟩,hp⟩;refine⟨fun _=>hp.pre,_,hp,?_⟩;clear hp;refine cX ?_;refine tF rfl (by omega) (by omega) rfl rfl rfl ?_
       have pH:=pH (by omega)
       skip
       have KY:=hA z3.toNat (by omega)
       refine j9 Tryz.func62 (fun F w hp=> ?_);refine bN.mono (gk hR hn hp 2) ?_;rintro _ w ⟨z4,⟨rfl,_,FH⟩,hp⟩;refine⟨fun _=>hp.pre,_,hp,?_⟩;clear hp;refine cX ?_
       have FH:=FH (by decide)
       refine pO kg [(⟨3,A.getD z3.toNat default,z4⟩:dJ)] rfl rfl rfl rfl (s:=3) rfl (by decide) (by infer_instance) (by rfl) (by rfl) (by rfl) (by decide) ?_;intro bl;refine cX ?_
       refine dc ?_;intro w hp C;refine bL ?_;refine aq ?_
       exact⟨_,_,_,⟨rfl,by unfold ux;show(1:Int)<=_;split<;>omega,cV (by omega) (by omega) (by omega)⟩,hp⟩
      ·refine aM ?_
       apply ae<;>intro h0
       ·refine aN ?_
        refine lW hp kg [(⟨0,1,0⟩:dJ)] ?_;intro w bl hx hp;refine az ?_;refine aq ?_
        exact⟨_,_,_,⟨rfl,by unfold ux;show(1:Int)<=_;split<;>omega,cV (by omega) (by omega) (by omega)⟩,hp⟩
       ·refine aM ?_
        have fD:va≠none:=Hi (by omega)
        refine cx Tryz.func62 (cg hR hn hp A.length) ?_;rintro _ w ⟨z3,⟨rfl,_,pH⟩,hp⟩;refine az ?_;refine ik hp ?_
        have pH:=pH (by omega)
        skip
        have KY:=hA z3.toNat (by omega)
        refine lW hp kg [(⟨2,A.getD z3.toNat default,0⟩:dJ)] ?_;intro w bl hx hp;refine az ?_;refine aq ?_
        exact⟨_,_,_,⟨rfl,by unfold ux;show(1:Int)<=_;split<;>omega,cV (by omega) (by omega) (by omega)⟩,hp⟩
     ·exact absurd k2 WB
    ·refine aM ?_
     apply ae<;>intro k3
     ·refine aN ?_
      apply ae<;>intro h0
      ·refine aN ?_
       have fD:va≠none:=Hi (by omega)
       refine fQ hp ?_
       refine j9 Tryz.func62 (fun F w hp=> ?_);refine bN.mono (gk hR hn hp A.length) ?_;rintro _ w ⟨z3,⟨rfl,_,pH⟩,hp⟩;refine⟨fun _=>hp.pre,_,hp,?_⟩;clear hp;refine cX ?_;refine tF rfl (by omega) (by omega) rfl rfl rfl ?_
       have pH:=pH (by omega)
       skip
       have KY:=hA z3.toNat (by omega)
       refine j9 Tryz.func62 (fun F w hp=> ?_);refine bN.mono (gk hR hn hp 2) ?_;rintro _ w ⟨z4,⟨rfl,_,FH⟩,hp⟩;refine⟨fun _=>hp.pre,_,hp,?_⟩;clear hp;refine cX ?_
       have FH:=FH (by decide)
       refine pO kg [(⟨3,A.getD z3.toNat default,z4⟩:dJ)] rfl rfl rfl rfl (s:=3) rfl (by decide) (by infer_instance) (by rfl) (by rfl) (by rfl) (by decide) ?_;intro bl;refine cX ?_
       refine dc ?_;intro w hp C;refine bL ?_;refine aq ?_
       exact⟨_,_,_,⟨rfl,by unfold ux;show(1:Int)<=_;split<;>omega,cV (by omega) (by omega) (by omega)⟩,hp⟩
      ·refine aM ?_
       apply ae<;>intro h0
       ·refine aN ?_
        refine lW hp kg [(⟨0,1,0⟩:dJ)] ?_;intro w bl hx hp;refine az ?_;refine aq ?_
        exact⟨_,_,_,⟨rfl,by unfold ux;show(1:Int)<=_;split<;>omega,cV (by omega) (by omega) (by omega)⟩,hp⟩
       ·refine aM ?_
        have fD:va≠none:=Hi (by omega)
        refine cx Tryz.func62 (cg hR hn hp A.length) ?_;rintro _ w ⟨z3,⟨rfl,_,pH⟩,hp⟩;refine az ?_;refine ik hp ?_
        have pH:=pH (by omega)
        skip
        have KY:=hA z3.toNat (by omega)
        refine lW hp kg [(⟨2,A.getD z3.toNat default,0⟩:dJ)] ?_;intro w bl hx hp;refine az ?_;refine aq ?_
        exact⟨_,_,_,⟨rfl,by unfold ux;show(1:Int)<=_;split<;>omega,cV (by omega) (by omega) (by omega)⟩,hp⟩
     ·refine aM ?_
      apply ae<;>intro h0
      ·refine aN ?_
       refine lW hp kg [(⟨0,1,0⟩:dJ)] ?_;intro w bl hx hp;refine az ?_;refine aq ?_
       exact⟨_,_,_,⟨rfl,by unfold ux;show(1:Int)<=_;split<;>omega,cV (by omega) (by omega) (by omega)⟩,hp⟩
      ·refine aM ?_
       have fD:va≠none:=Hi (by omega)
       refine cx Tryz.func62 (cg hR hn hp A.length) ?_;rintro _ w ⟨z3,⟨rfl,_,pH⟩,hp⟩;refine az ?_;refine ik hp ?_
       have pH:=pH (by omega)
       skip
       have KY:=hA z3.toNat (by omega)
       refine lW hp kg [(⟨2,A.getD z3.toNat default,0⟩:dJ)] ?_;intro w bl hx hp;refine az ?_;refine aq ?_
       exact⟨_,_,_,⟨rfl,by unfold ux;show(1:Int)<=_;split<;>omega,cV (by omega) (by omega) (by omega)⟩,hp⟩
 ·refine cx Tryz.func188 (oS hR hn hp 3) ?_;rintro _ w ⟨b,rfl,hp⟩;refine az ?_
  cases b
  ·refine aM ?_;refine gG hp ?_;intro w _ hx hp;refine az ?_
   refine cx Tryz.func187 (pK hR hn hp.f1 _ _ _ (by decide) (by decide)) ?_;rintro _ w ⟨z,⟨rfl,j,hj,hz⟩,hp⟩;refine az ?_
   have Xv:=KX (j:=j) hj
   change(0<=[4,5,6,7,8,9,10,11,12,7,12].getD j default/\[4,5,6,7,8,9,10,11,12,7,12].getD j default<=12)/\1<=jx ([4,5,6,7,8,9,10,11,12,7,12].getD j default)/\jx ([4,5,6,7,8,9,10,11,12,7,12].getD j default)<=3 at Xv
   rw[<-hz] at Xv
   have hz12:=Xv.1
   obtain⟨ar,Mk⟩:∃ar,ar=jx z:=⟨_,rfl⟩
   rw[<-Mk] at Xv
   obtain⟨q,hq⟩:∃q,q=(m-1)/ar:=⟨_,rfl⟩
   have hqb:1<=q/\q<=m-1/\ar*q<=m-1:=by
    have hc:ar=1\/ar=2\/ar=3:=by omega
    rcases hc with h|h|h<;>rw[hq,h]<;>omega
   have hmq:ux q=q:=by unfold ux;rw[if_neg (by omega)]
   refine lW hp kg [(⟨z,0,0⟩:dJ)] ?_;intro w b8 hx hp;refine az ?_
   refine bQ hp Tryz.func139 (gj z _) ?_;intro w hx hp
   rw[<-Mk]
   have hp:=hp.f1
   refine jv [0,1,2,8,9,10] (fun(k:Nat) (O:List dJ) (oa:Option Addr) (oc:Nat)=>[(0,.pointer (some ⟨p,0,none⟩)),(1,.slice va A.length vc),(2,.int .i64 m),(8,.slice oa O.length oc),(9,.int .i64 ar),(10,.int .i64 (k:Int))])
    (fun k O oa oc w'=>((k:Int)<=ar/\(O.length:Int)<=1+(k:Int)*q/\∀o,o∈O->sU o)/\Hp w0 w' (fv p a n c::rO 132 3 kg oa oc O::L)) (fun k _ _ _=>ar.toNat-k) 0 [⟨z,0,0⟩] _ _ rfl ⟨⟨by omega,by rw[show((0:Nat):Int)*q=0 from Int.zero_mul _];show(1:Int)<=1+0;decide,cV (by omega) (by omega) (by omega)⟩,hp.f2.drop⟩ ?_
   clear hp
   rintro k O oa oc w1 ⟨⟨Bv,p6,hO⟩,hp⟩ IH C
   refine bL ?_
   apply ae<;>intro bD
   ·refine aN ?_
    rw[<-hq]
    refine cx Tryz.func194 (ih q.toNat (by omega) q (by omega) (by omega) (by omega) hR hp) ?_
    rintro _ w ⟨O2,ob,od,⟨rfl,r7,yN⟩,hp⟩
    rw[hmq] at r7
    have hkq:((k:Nat):Int)*q<=3*q:=Int.mul_le_mul_of_nonneg_right (by omega) (by omega)
    have hkq1:(((k+1:Nat):Nat):Int)*q=((k:Nat):Int)*q+q:=by rw[Int.natCast_add,Int.add_mul];simp
    refine az ?_
    refine gT hp ?_;intro o2 c2 w hp bZ;refine az ?_
    refine IH (k+1) (O++O2) o2 c2 _ _ _ (by omega) rfl ⟨⟨by omega,by rw[hkq1,List.length_append];omega,fun o ho=> ?_⟩,hp.drop⟩
    rcases List.mem_append.1 ho with ho|ho
    ·exact hO o ho
    ·exact yN o ho
   ·refine aM ?_;refine aq ?_
    obtain rfl:(k:Int)=ar:=by omega
    exact⟨O,oa,oc,⟨rfl,by unfold ux;rw[if_neg (by omega)];omega,hO⟩,hp.f1⟩
  ·refine aN ?_
   refine cx Tryz.func62 (cg hR hn hp 8) ?_;rintro _ w ⟨z,⟨rfl,_,hz⟩,hp⟩;refine az ?_
   have hz:=hz (by decide)
   apply ae<;>intro k0
   ·refine aN ?_
    refine cx Tryz.func62 (cg hR hn hp 16) ?_;rintro _ w ⟨z2,⟨rfl,_,Cc⟩,hp⟩;refine az ?_
    have Cc:=Cc (by decide)
    refine lW hp kg [(⟨0,z2,0⟩:dJ)] ?_;intro w bl hx hp;refine az ?_;refine aq ?_
    exact⟨_,_,_,⟨rfl,by unfold ux;show(1:Int)<=_;split<;>omega,cV (by omega) (by omega) (by omega)⟩,hp⟩
   ·refine aM ?_
    apply ae<;>intro k1
    ·refine aN ?_
     refine cx Tryz.func188 (oS hR hn hp 3) ?_;rintro _ w ⟨b,rfl,hp⟩;refine az ?_
     cases b
     ·refine aM ?_
      apply ae<;>intro h0
      ·refine aN ?_
       refine lW hp kg [(⟨0,1,0⟩:dJ)] ?_;intro w bl hx hp;refine az ?_;refine aq ?_
       exact⟨_,_,_,⟨rfl,by unfold ux;show(1:Int)<=_;split<;>omega,cV (by omega) (by omega) (by omega)⟩,hp⟩
      ·refine aM ?_
       have fD:va≠none:=Hi (by omega)
       refine cx Tryz.func62 (cg hR hn hp A.length) ?_;rintro _ w ⟨z3,⟨rfl,_,pH⟩,hp⟩;refine az ?_;refine ik hp ?_
       have pH:=pH (by omega)
       skip
       have KY:=hA z3.toNat (by omega)
       refine lW hp kg [(⟨2,A.getD z3.toNat default,0⟩:dJ)] ?_;intro w bl hx hp;refine az ?_;refine aq ?_
       exact⟨_,_,_,⟨rfl,by unfold ux;show(1:Int)<=_;split<;>omega,cV (by omega) (by omega) (by omega)⟩,hp⟩
     ·refine aN ?_
      refine lW hp kg [(⟨1,0,0⟩:dJ)] ?_;intro w bl hx hp;refine az ?_;refine aq ?_
      exact⟨_,_,_,⟨rfl,by unfold ux;show(1:Int)<=_;split<;>omega,cV (by omega) (by omega) (by omega)⟩,hp⟩
    ·refine aM ?_
     apply ae<;>intro k2
     ·refine aN ?_
      apply ae<;>intro WB
      ·refine aN ?_
       apply ae<;>intro h0
       ·refine aN ?_
        have fD:va≠none:=Hi (by omega)
        refine fQ hp ?_
        refine j9 Tryz.func62 (fun F w hp=> ?_);refine bN.mono (gk hR hn hp A.length) ?_;rintro _ w ⟨z3,⟨rfl,_,pH⟩,hp⟩;refine⟨fun _=>hp.pre,_,hp,?_⟩;clear hp;refine cX ?_;refine tF rfl (by omega) (by omega) rfl rfl rfl ?_
        have pH:=pH (by omega)
        skip
        have KY:=hA z3.toNat (by omega)
        refine j9 Tryz.func62 (fun F w hp=> ?_);refine bN.mono (gk hR hn hp 2) ?_;rintro _ w ⟨z4,⟨rfl,_,FH⟩,hp⟩;refine⟨fun _=>hp.pre,_,hp,?_⟩;clear hp;refine cX ?_
        have FH:=FH (by decide)
        refine pO kg [(⟨3,A.getD z3.toNat default,z4⟩:dJ)] rfl rfl rfl rfl (s:=3) rfl (by decide) (by infer_instance) (by rfl) (by rfl) (by rfl) (by decide) ?_;intro bl;refine cX ?_
        refine dc ?_;intro w hp C;refine bL ?_;refine aq ?_
        exact⟨_,_,_,⟨rfl,by unfold ux;show(1:Int)<=_;split<;>omega,cV (by omega) (by omega) (by omega)⟩,hp⟩
       ·refine aM ?_
        apply ae<;>intro h0
        ·refine aN ?_
         refine lW hp kg [(⟨0,1,0⟩:dJ)] ?_;intro w bl hx hp;refine az ?_;refine aq ?_
         exact⟨_,_,_,⟨rfl,by unfold ux;show(1:Int)<=_;split<;>omega,cV (by omega) (by omega) (by omega)⟩,hp⟩
        ·refine aM ?_
         have fD:va≠none:=Hi (by omega)
         refine cx Tryz.func62 (cg hR hn hp A.length) ?_;rintro _ w ⟨z3,⟨rfl,_,pH⟩,hp⟩;refine az ?_;refine ik hp ?_
         have pH:=pH (by omega)
         skip
         have KY:=hA z3.toNat (by omega)
         refine lW hp kg [(⟨2,A.getD z3.toNat default,0⟩:dJ)] ?_;intro w bl hx hp;refine az ?_;refine aq ?_
         exact⟨_,_,_,⟨rfl,by unfold ux;show(1:Int)<=_;split<;>omega,cV (by omega) (by omega) (by omega)⟩,hp⟩
      ·exact absurd k2 WB
     ·refine aM ?_
      apply ae<;>intro k3
      ·refine aN ?_
       apply ae<;>intro h0
       ·refine aN ?_
        have fD:va≠none:=Hi (by omega)
        refine fQ hp ?_
        refine j9 Tryz.func62 (fun F w hp=> ?_);refine bN.mono (gk hR hn hp A.length) ?_;rintro _ w ⟨z3,⟨rfl,_,pH⟩,hp⟩;refine⟨fun _=>hp.pre,_,hp,?_⟩;clear hp;refine cX ?_;refine tF rfl (by omega) (by omega) rfl rfl rfl ?_
        have pH:=pH (by omega)
        skip
        have KY:=hA z3.toNat (by omega)
        refine j9 Tryz.func62 (fun F w hp=> ?_);refine bN.mono (gk hR hn hp 2) ?_;rintro _ w ⟨z4,⟨rfl,_,FH⟩,hp⟩;refine⟨fun _=>hp.pre,_,hp,?_⟩;clear hp;refine cX ?_
        have FH:=FH (by decide)
        refine pO kg [(⟨3,A.getD z3.toNat default,z4⟩:dJ)] rfl rfl rfl rfl (s:=3) rfl (by decide) (by infer_instance) (by rfl) (by rfl) (by rfl) (by decide) ?_;intro bl;refine cX ?_
        refine dc ?_;intro w hp C;refine bL ?_;refine aq ?_
        exact⟨_,_,_,⟨rfl,by unfold ux;show(1:Int)<=_;split<;>omega,cV (by omega) (by omega) (by omega)⟩,hp⟩
       ·refine aM ?_
        apply ae<;>intro h0
        ·refine aN ?_
         refine lW hp kg [(⟨0,1,0⟩:dJ)] ?_;intro w bl hx hp;refine az ?_;refine aq ?_
         exact⟨_,_,_,⟨rfl,by unfold ux;show(1:Int)<=_;split<;>omega,cV (by omega) (by omega) (by omega)⟩,hp⟩
        ·refine aM ?_
         have fD:va≠none:=Hi (by omega)
         refine cx Tryz.func62 (cg hR hn hp A.length) ?_;rintro _ w ⟨z3,⟨rfl,_,pH⟩,hp⟩;refine az ?_;refine ik hp ?_
         have pH:=pH (by omega)
         skip
         have KY:=hA z3.toNat (by omega)
         refine lW hp kg [(⟨2,A.getD z3.toNat default,0⟩:dJ)] ?_;intro w bl hx hp;refine az ?_;refine aq ?_
         exact⟨_,_,_,⟨rfl,by unfold ux;show(1:Int)<=_;split<;>omega,cV (by omega) (by omega) (by omega)⟩,hp⟩
      ·refine aM ?_
       apply ae<;>intro h0
       ·refine aN ?_
        refine lW hp kg [(⟨0,1,0⟩:dJ)] ?_;intro w bl hx hp;refine az ?_;refine aq ?_
        exact⟨_,_,_,⟨rfl,by unfold ux;show(1:Int)<=_;split<;>omega,cV (by omega) (by omega) (by omega)⟩,hp⟩
       ·refine aM ?_
        have fD:va≠none:=Hi (by omega)
        refine cx Tryz.func62 (cg hR hn hp A.length) ?_;rintro _ w ⟨z3,⟨rfl,_,pH⟩,hp⟩;refine az ?_;refine ik hp ?_
        have pH:=pH (by omega)
        skip
        have KY:=hA z3.toNat (by omega)
        refine lW hp kg [(⟨2,A.getD z3.toNat default,0⟩:dJ)] ?_;intro w bl hx hp;refine az ?_;refine aq ?_
        exact⟨_,_,_,⟨rfl,by unfold ux;show(1:Int)<=_;split<;>omega,cV (by omega) (by omega) (by omega)⟩,hp⟩
theorem Em {w0 w:World}{L:List bg}{p:Nat}{a:Option Addr}{n c:Nat}{code:List Int}(hR:Rd w0 a 1 xp code)(hn:code.length=n)(A:List Int)(va:Option Addr)(vc:Nat)(hA:CF A)(Xu:A.length<=100000)(x:bm)(s:Int)(hx:x.aP.length<=100000)[gm w0 L va 1 eI A][gm w0 L x.aa 2 BI x.aP](hp:Hp w0 w (fv p a n c::L)):
  bN Tryz.prog 189 [.pointer (some ⟨p,0,none⟩),x.v,.int .i64 s,.slice va A.length vc] w (fun v w'=>∃(y:qI) (aa:Option Addr) (ac:Nat),(v=({x with aP:=x.aP++[y],aa:=aa,ac:=ac}:bm).v/\y.ops.length<=9/\∀o,o∈y.ops->sU o)/\Hp w0 w' (fv p a n c::rO 75 2 BI aa ac (x.aP++[y])::rO 132 3 kg y.oa y.oc y.ops::L)):=by
 refine vI Tryz.Rn ?_;intro C
 refine bP hp ?_;intro w b5 hx hp;refine az ?_
 refine bP hp ?_;intro w b8 hx hp;refine az ?_
 refine lW hp BI ([]:List qI) ?_;intro w b9 hx hp;refine az ?_;refine aH hp ?_
 refine gT hp ?_;intro a1 c1 w hp bZ;refine az ?_
 rw[List.nil_append] at hp⊢
 refine cx Tryz.func194 ((Iw hn A va vc hA Xu 9 9 (by decide) (by decide) (by decide) hR hp.f3)) ?_;rintro _ w ⟨O,ob,od,⟨rfl,hl,hO⟩,hp⟩;refine az ?_
 have hl9:O.length<=9:=by unfold ux at hl;rw[if_neg (by decide)] at hl;omega
 refine lW hp BI [(⟨s,O,ob,od⟩:qI)] ?_;intro w bl hx hp;refine az ?_
 refine gT hp ?_;intro a2 c2 w hp bZ;refine az ?_;(repeat(first|(refine ah ?_;refine aH hp ?_)|(refine aI ?_;(first|refine iC hp ?_|refine aW hp ?_);intro w hp;refine az ?_)|(refine dD ?_;refine jf hp rfl ?_)))
 exact⟨⟨s,O,ob,od⟩,a2,c2,⟨rfl,hl9,hO⟩,((hp.drop.f2.f2).f3.drop).f3.drop⟩
end Go.Proofs
end
section
namespace Go.Xw
open Go.RowKit
section
variable {S:ak} {sz:Nat} {R:Value->World->Prop} {C:World->Prop} {w:World}
theorem Cq {X:Type}(jc:List Nat)(E:X->Env)(I:X->World->Prop){K:List Item}{g:G}
  (h:(∀(x:X) (j7:Env) (w':World) (C:World->Prop),et j7 jc=some (E x)->I x w'->ax S sz R C w' (.code K j7))->ax S sz R C w g)
  (body:∀(x:X) (w:World),I x w->∀C,ax S sz R C w (.code K (E x))):ax S sz R C w g:=
 h fun x _ w' C he hI a ha=>body x w' hI C a (ha.prune he)
theorem oT {b:Bool}{k1 K:List Item}{env:Env}[hS:S.Ok](hb:b=false)(hg:ax S sz R C w (.code K env)):ax S sz R C w (.cond b k1 (.code .skip::K) env):=by
 subst hb;exact(dt hS 1 (.code (.code .skip::K) env) [] (.code K env) [] rfl trivial trivial hg).1
theorem Ix {b:Bool}{id:Nat}{k1 k K:List Item}{env:Env}[hS:S.Ok](hb:b=false)(hk:exitTo id k=some K)(hg:ax S sz R C w (.code K env)):ax S sz R C w (.cond b k1 (.code (.exit id)::k) env):=by
 subst hb;exact(dt hS 1 (.code (.code (.exit id)::k) env) [] (.code K env) [] (by show(match exitTo id k with|some k'=>run S sz 0 (.code k' env) []|none=>_)=_;rw[hk];rfl) trivial trivial hg).1
theorem En {q:Bool}{ops:Array Oper}{l:List Oper}{k K:List Item}{env j7:Env}[hS:S.Ok](hp:q=true->∃pre,ops.toList=pre++l)(h:run S sz 1 (.ops q ops l k env) []=(.code K j7,[]))(hg:ax S sz R C w (.code K j7)):ax S sz R C w (.ops q ops l k env):=
 (dt hS 1 _ [] _ [] h hp trivial hg).1
theorem SD {w0:World}{F:List bg}{b o:Nat}{tb t:TypeId}{cs:List Value}{v:Value}{d:Nat}{ops:Array Oper}{rest:List Oper}{k K:List Item}{env j7:Env}[hS:S.Ok](hp:Hp w0 w F)[hb:CV w0 F b tb cs](hv:r5 S.tt t cs o=some v)
  (h:run S sz 1 (.ops false ops rest k ((d,v)::env)) []=(.code K j7,[])) (hg:ax S sz R C w (.code K j7)):ax S sz R C w (.act (.load t ⟨b,o,none⟩) ⟨false,ops,rest,some d,k,env⟩):=
 xy rfl (by simp[Action.lO,pe hS.tt (hb.h w hp) hv]) (En mE h hg)
end
end Go.Xw
end
