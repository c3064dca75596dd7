/- Designs in general: modules that pass the check; each under its stated conditions. Printed by wip/gen_des3.py. -/
import Derived.Test.YtiepmliokblkjaaGreatBrf
import Derived.Test.YtiepmliokblkjaaGreatDes2
set_option linter.all false
namespace Go.Xw
structure Xv (D:List bm)(k:Nat):Prop where
 ct:CtP D k
 sg:∀i,i<(D.getD k default).sg.length->(0<=((D.getD k default).sg.getD i default).kind/\((D.getD k default).sg.getD i default).kind<=3)/\(0<=((D.getD k default).sg.getD i default).width/\((D.getD k default).sg.getD i default).width<=4)/\(0<=((D.getD k default).sg.getD i default).init/\((D.getD k default).sg.getD i default).init<=15)
 tg:∀i,i<(D.getD k default).aP.length->dr (D.getD k default).n ((D.getD k default).aP.getD i default).tg
 ops:∀i,i<(D.getD k default).aP.length->fU ((D.getD k default).aP.getD i default).ops (D.getD k default).sg.length
 prm:∀i,i<(D.getD k default).ins.length->0<=((D.getD k default).ins.getD i default).init/\((D.getD k default).ins.getD i default).init<=4
 prt:∀i,i<(D.getD k default).ins.length->∀j,j<((D.getD k default).ins.getD i default).ins.length->dr (D.getD k default).n (((D.getD k default).ins.getD i default).ins.getD j default)
 ms:∀i,i<(D.getD k default).ms.length->dr (D.getD k default).n ((D.getD k default).ms.getD i default).addr/\dr (D.getD k default).n ((D.getD k default).ms.getD i default).data/\dr (D.getD k default).n ((D.getD k default).ms.getD i default).write/\dr (D.getD k default).n ((D.getD k default).ms.getD i default).out
def Ed (D:List bm):Prop:=∀k,k<D.length->∀i,i<(D.getD k default).aP.length->((D.getD k default).aP.getD i default).ops.length<=1048576/\∀j,j<((D.getD k default).aP.getD i default).ops.length->u6 (((D.getD k default).aP.getD i default).ops.getD j default)
theorem AW {n:aQ}{s:Int}(h:¬Ii n s<0):dr n s:=Classical.byContradiction fun hh=>h (by rw[vn hh];decide)
end Go.Xw
namespace Go.Proofs
open Go.Xw
set_option maxRecDepth 100000
set_option maxHeartbeats 4000000
attribute [local irreducible] ax aE
theorem FR (D:ku)(k:Int)(w0:World)(hD:vr w0 D)(hO:Ed D.ms):
  bN Tryz.prog 135 [D.v,.int .i64 k] w0 (fun v w=>∃b,(v= .bool b/\(b=true->0<=k/\Xv D.ms k.toNat))/\Ext w0 w):=by
 refine eu Tryz.Jt ?_;intro C hp;skip;refine bP hp ?_;intro w b2 hx hp;refine az ?_;refine aI hp ?_
 refine cy Tryz.func167 (v7 D k _ hp.Th) ?_;rintro _ w ⟨b,⟨rfl,hb⟩,hx⟩;have hp:=hp.ext hx;refine az ?_
 cases b
 ·refine aN ?_;refine aq ?_
  exact⟨false,⟨rfl,fun h=>Bool.noConfusion h⟩,hp.x⟩
 obtain⟨CB,hC⟩:=hb rfl
 obtain⟨kn,WA⟩:=Int.eq_ofNat_of_zero_le CB
 subst WA
 rw[Int.toNat_natCast] at hC
 have lk:=hC.lk
 have ldk:Ln kn D.ms:=⟨lk⟩
 have q1:=hC.sg kn lk
 have q2:=hC.aP kn lk
 have q3:=hC.il kn lk
 have q4:=hC.ms kn lk
 have s1:(D.ms.getD kn default).sg.length<=1048576:=by omega
 refine aM ?_;(repeat(refine ah ?_;first|refine aI hp ?_|refine bb hp ?_))
 refine bP hp ?_;intro w b5 hx hp;refine az ?_;refine aW hp ?_;intro w hp;refine az ?_
 refine aR [1,2,5,6] (fun(i:Nat)=>[(1,.int .i64 ((kn:Nat):Int)),(2,.pointer (some ⟨b2,0,none⟩)),(5,.pointer (some ⟨b5,0,none⟩)),(6,.int .i64 (i:Int))])
  (fun i w'=>(i<=(D.ms.getD kn default).sg.length/\∀j:Nat,j<i->(0<=((D.ms.getD kn default).sg.getD j default).kind/\((D.ms.getD kn default).sg.getD j default).kind<=3)/\(0<=((D.ms.getD kn default).sg.getD j default).width/\((D.ms.getD kn default).sg.getD j default).width<=4)/\(0<=((D.ms.getD kn default).sg.getD j default).init/\((D.ms.getD kn default).sg.getD j default).init<=15))/\Hp w0 w' [rB b5 41 (D.ms.getD kn default).cs,rB b2 136 D.cs]) (fun i=>(D.ms.getD kn default).sg.length-i) 0 rfl ⟨⟨by omega,fun j hj=>by omega⟩,hp⟩ ?_
 clear hp
 rintro i w1 ⟨⟨hi,zM⟩,hp⟩ IH C
 refine bL ?_;refine aI hp ?_
 apply ae<;>intro bD
 ·have aF:i<(D.ms.getD kn default).sg.length:=by omega
  refine aN ?_;(repeat(refine ah ?_;first|refine aI hp ?_|refine bb hp ?_))
  refine bP hp ?_;intro w b7 hx hp;refine az ?_;(repeat(first|(refine ah ?_;refine aI hp ?_)|(refine aH ?_;refine aW hp ?_;intro w hp;refine az ?_)))
  by_cases h1:0<=((D.ms.getD kn default).sg.getD i default).kind/\((D.ms.getD kn default).sg.getD i default).kind<=3
  ·refine bQ hp Tryz.func79 ((cE ((D.ms.getD kn default).sg.getD i default).kind 0 3 _).yes h1) ?_;intro w hx hp;(repeat(first|(refine aG ?_;refine aO ?_)|(refine ah ?_;refine aI hp ?_)))
   by_cases h2:0<=((D.ms.getD kn default).sg.getD i default).width/\((D.ms.getD kn default).sg.getD i default).width<=4
   ·refine bQ hp Tryz.func79 ((cE ((D.ms.getD kn default).sg.getD i default).width 0 4 _).yes h2) ?_;intro w hx hp;(repeat(first|(refine aG ?_;refine aO ?_)|(refine ah ?_;refine aI hp ?_)))
    by_cases h3:0<=((D.ms.getD kn default).sg.getD i default).init/\((D.ms.getD kn default).sg.getD i default).init<=15
    ·refine bQ hp Tryz.func79 ((cE ((D.ms.getD kn default).sg.getD i default).init 0 15 _).yes h3) ?_;intro w hx hp;(repeat(first|(refine aG ?_;refine aO ?_)|(refine ah ?_;refine aI hp ?_)))
     (first|apply fx|apply cf)<;>intro h4 e<;>rw[e]<;>clear e;all_goals((repeat(first|(refine aG ?_;first|refine aO ?_|refine ba ?_)|(refine ah ?_;refine aI hp ?_))))
     ·apply ae<;>intro h5
      ·refine aN ?_;refine aq ?_
       exact⟨false,⟨rfl,fun h=>Bool.noConfusion h⟩,hp.x⟩
      ·refine aM ?_;refine aI hp ?_
       (first|apply fx|apply cf)<;>intro h6 e<;>rw[e]<;>clear e;all_goals((repeat(first|(refine aG ?_;first|refine aO ?_|refine ba ?_)|(refine ah ?_;refine aI hp ?_))))
       ·refine cy Tryz.func168 (sr D kn i _ hp.Th) ?_;rintro _ w ⟨z,rfl,hx⟩;have hp:=hp.ext hx;refine az ?_;refine aO ?_
        apply ae<;>intro h7
        ·refine aN ?_;refine aq ?_
         exact⟨false,⟨rfl,fun h=>Bool.noConfusion h⟩,hp.x⟩
        ·refine aM ?_
         refine IH (i+1) _ _ _ (by omega) rfl ⟨⟨by omega,fun j hj=> ?_⟩,hp.drop⟩
         by_cases dC:j<i
         ·exact zM j dC
         ·obtain rfl:j=i:=by omega
          exact⟨h1,h2,h3⟩
       ·refine aM ?_
        refine IH (i+1) _ _ _ (by omega) rfl ⟨⟨by omega,fun j hj=> ?_⟩,hp.drop⟩
        by_cases dC:j<i
        ·exact zM j dC
        ·obtain rfl:j=i:=by omega
         exact⟨h1,h2,h3⟩
     ·refine aM ?_;refine aI hp ?_
      (first|apply fx|apply cf)<;>intro h6 e<;>rw[e]<;>clear e;all_goals((repeat(first|(refine aG ?_;first|refine aO ?_|refine ba ?_)|(refine ah ?_;refine aI hp ?_))))
      ·refine cy Tryz.func168 (sr D kn i _ hp.Th) ?_;rintro _ w ⟨z,rfl,hx⟩;have hp:=hp.ext hx;refine az ?_;refine aO ?_
       apply ae<;>intro h7
       ·refine aN ?_;refine aq ?_
        exact⟨false,⟨rfl,fun h=>Bool.noConfusion h⟩,hp.x⟩
       ·refine aM ?_
        refine IH (i+1) _ _ _ (by omega) rfl ⟨⟨by omega,fun j hj=> ?_⟩,hp.drop⟩
        by_cases dC:j<i
        ·exact zM j dC
        ·obtain rfl:j=i:=by omega
         exact⟨h1,h2,h3⟩
      ·refine aM ?_
       refine IH (i+1) _ _ _ (by omega) rfl ⟨⟨by omega,fun j hj=> ?_⟩,hp.drop⟩
       by_cases dC:j<i
       ·exact zM j dC
       ·obtain rfl:j=i:=by omega
        exact⟨h1,h2,h3⟩
    ·refine bQ hp Tryz.func79 ((cE ((D.ms.getD kn default).sg.getD i default).init 0 15 _).no h3) ?_;intro w hx hp;(repeat(refine aG ?_;first|refine aO ?_|refine ba ?_))
     refine aN ?_;refine aq ?_
     exact⟨false,⟨rfl,fun h=>Bool.noConfusion h⟩,hp.x⟩
   ·refine bQ hp Tryz.func79 ((cE ((D.ms.getD kn default).sg.getD i default).width 0 4 _).no h2) ?_;intro w hx hp;(repeat(refine aG ?_;first|refine aO ?_|refine ba ?_))
    refine aN ?_;refine aq ?_
    exact⟨false,⟨rfl,fun h=>Bool.noConfusion h⟩,hp.x⟩
  ·refine bQ hp Tryz.func79 ((cE ((D.ms.getD kn default).sg.getD i default).kind 0 3 _).no h1) ?_;intro w hx hp;(repeat(refine ba ?_))
   refine aN ?_;refine aq ?_
   exact⟨false,⟨rfl,fun h=>Bool.noConfusion h⟩,hp.x⟩
 ·refine aM ?_
  obtain rfl:i=(D.ms.getD kn default).sg.length:=by omega
  clear IH
  refine aR [2,5,8] (fun(i:Nat)=>[(2,.pointer (some ⟨b2,0,none⟩)),(5,.pointer (some ⟨b5,0,none⟩)),(8,.int .i64 (i:Int))])
   (fun i w'=>(i<=(D.ms.getD kn default).aP.length/\∀j,j<i->dr (D.ms.getD kn default).n ((D.ms.getD kn default).aP.getD j default).tg/\fU ((D.ms.getD kn default).aP.getD j default).ops (D.ms.getD kn default).sg.length)/\Hp w0 w' [rB b5 41 (D.ms.getD kn default).cs,rB b2 136 D.cs]) (fun i=>(D.ms.getD kn default).aP.length-i) 0 rfl ⟨⟨by omega,fun j hj=>by omega⟩,hp⟩ ?_
  clear hp
  rintro i w1 ⟨⟨hi,has⟩,hp⟩ IH C
  refine bL ?_;refine aI hp ?_
  apply ae<;>intro bD
  ·have aF:i<(D.ms.getD kn default).aP.length:=by omega
   have la:Lf i (D.ms.getD kn default).aP:=⟨aF⟩
   refine aN ?_;(repeat(refine ah ?_;first|refine aI hp ?_|refine bb hp ?_))
   refine bP hp ?_;intro w b9 hx hp;refine az ?_;(repeat(first|(refine ah ?_;refine aI hp ?_)|(refine aH ?_;refine aW hp ?_;intro w hp;refine az ?_)))
   by_cases h1:si (D.ms.getD kn default).n ((D.ms.getD kn default).aP.getD i default).tg
   ·have jg:=h1.1
    refine bQ hp Tryz.func169 ((fC (D.ms.getD kn default) ((D.ms.getD kn default).aP.getD i default).tg _ hp.mod s1).tt (cR.2 h1)) ?_;intro w hx hp;(repeat(first|(refine aG ?_;first|refine aO ?_|refine ba ?_)|(refine ah ?_;refine aI hp ?_)))
    by_cases h4:fU ((D.ms.getD kn default).aP.getD i default).ops (D.ms.getD kn default).sg.length
    ·refine bQ hp Tryz.func78 ((fA _ _ _ ((D.ms.getD kn default).aP.getD i default).ops rfl (D.ms.getD kn default).sg.length _ hp.rd (hO kn lk i aF).1 (hO kn lk i aF).2).tt (lu h4)) ?_;intro w hx hp;refine aO ?_
     refine aM ?_
     refine IH (i+1) _ _ _ (by omega) rfl ⟨⟨by omega,fun j hj=> ?_⟩,hp.drop⟩
     by_cases dC:j<i
     ·exact has j dC
     ·obtain rfl:j=i:=by omega
      exact⟨jg,h4⟩
    ·refine bQ hp Tryz.func78 ((fA _ _ _ ((D.ms.getD kn default).aP.getD i default).ops rfl (D.ms.getD kn default).sg.length _ hp.rd (hO kn lk i aF).1 (hO kn lk i aF).2).ff (gP h4)) ?_;intro w hx hp;refine aO ?_
     refine aN ?_;refine aq ?_
     exact⟨false,⟨rfl,fun h=>Bool.noConfusion h⟩,hp.x⟩
   ·refine bQ hp Tryz.func169 ((fC (D.ms.getD kn default) ((D.ms.getD kn default).aP.getD i default).tg _ hp.mod s1).ff (bt h1)) ?_;intro w hx hp;(repeat(first|(refine aG ?_;refine aO ?_)|(refine ah ?_;refine aI hp ?_)))
    refine bQ hp Tryz.func170 (ig (D.ms.getD kn default) ((D.ms.getD kn default).aP.getD i default).tg _ hp.mod s1) ?_;intro w hx hp;refine aO ?_
    (first|apply fx|apply cf)<;>intro h3 e<;>rw[e]<;>clear e;all_goals((repeat(first|(refine aG ?_;first|refine aO ?_|refine ba ?_)|(refine ah ?_;refine aI hp ?_))))
    ·refine aN ?_;refine aq ?_
     exact⟨false,⟨rfl,fun h=>Bool.noConfusion h⟩,hp.x⟩
    ·have h3:Ii (D.ms.getD kn default).n ((D.ms.getD kn default).aP.getD i default).tg=3:=Decidable.not_not.1 h3
     have jg:dr (D.ms.getD kn default).n ((D.ms.getD kn default).aP.getD i default).tg:=AW (by rw[h3];decide)
     by_cases h4:fU ((D.ms.getD kn default).aP.getD i default).ops (D.ms.getD kn default).sg.length
     ·refine bQ hp Tryz.func78 ((fA _ _ _ ((D.ms.getD kn default).aP.getD i default).ops rfl (D.ms.getD kn default).sg.length _ hp.rd (hO kn lk i aF).1 (hO kn lk i aF).2).tt (lu h4)) ?_;intro w hx hp;refine aO ?_
      refine aM ?_
      refine IH (i+1) _ _ _ (by omega) rfl ⟨⟨by omega,fun j hj=> ?_⟩,hp.drop⟩
      by_cases dC:j<i
      ·exact has j dC
      ·obtain rfl:j=i:=by omega
       exact⟨jg,h4⟩
     ·refine bQ hp Tryz.func78 ((fA _ _ _ ((D.ms.getD kn default).aP.getD i default).ops rfl (D.ms.getD kn default).sg.length _ hp.rd (hO kn lk i aF).1 (hO kn lk i aF).2).ff (gP h4)) ?_;intro w hx hp;refine aO ?_
      refine aN ?_;refine aq ?_
      exact⟨false,⟨rfl,fun h=>Bool.noConfusion h⟩,hp.x⟩
  ·refine aM ?_
   obtain rfl:i=(D.ms.getD kn default).aP.length:=by omega
   clear IH
   refine aR [2,5,10] (fun(i:Nat)=>[(2,.pointer (some ⟨b2,0,none⟩)),(5,.pointer (some ⟨b5,0,none⟩)),(10,.int .i64 (i:Int))])
    (fun i w'=>(i<=(D.ms.getD kn default).ins.length/\∀m,m<i->(0<=((D.ms.getD kn default).ins.getD m default).init/\((D.ms.getD kn default).ins.getD m default).init<=4)/\∀j,j<((D.ms.getD kn default).ins.getD m default).ins.length->dr (D.ms.getD kn default).n (((D.ms.getD kn default).ins.getD m default).ins.getD j default))/\Hp w0 w' [rB b5 41 (D.ms.getD kn default).cs,rB b2 136 D.cs]) (fun i=>(D.ms.getD kn default).ins.length-i) 0 rfl ⟨⟨by omega,fun j hj=>by omega⟩,hp⟩ ?_
   clear hp
   rintro i w1 ⟨⟨hi,yQ⟩,hp⟩ IH C
   refine bL ?_;refine aI hp ?_
   apply ae<;>intro bD
   ·have aF:i<(D.ms.getD kn default).ins.length:=by omega
    have lii:Xu i (D.ms.getD kn default).ins:=⟨aF⟩
    have HV:=hC.im i aF
    have St:=hC.ip i aF
    have lq:((D.ms.getD kn default).ins.getD i default).kind.toNat<D.ms.length:=by omega
    have Xt:Ln ((D.ms.getD kn default).ins.getD i default).kind.toNat D.ms:=⟨lq⟩
    obtain⟨q,hq⟩:∃q,q=((D.ms.getD kn default).ins.getD i default).kind.toNat:=⟨_,rfl⟩
    refine aN ?_;(repeat(refine ah ?_;first|refine aI hp ?_|refine bb hp ?_))
    refine bP hp ?_;intro w wX hx hp;refine az ?_;(repeat(first|(refine ah ?_;first|refine aI hp ?_|refine ik hp ?_)|(refine aH ?_;refine aW hp ?_;intro w hp;refine az ?_)))
    rw[<-hq] at Xt lq St⊢
    refine bP hp ?_;intro w ti hx hp;refine az ?_;(repeat(first|(refine ah ?_;refine aI hp ?_)|(refine aH ?_;refine aW hp ?_;intro w hp;refine az ?_)))
    have AL:=uu (D.ms.getD q default).n
    refine cy Tryz.func171 (rM (D.ms.getD q default) _ hp.mod) ?_;rintro _ w ⟨bp,cp,rfl,hq⟩;have hx:=hq.x;have hp:=hp.bJ hq;refine az ?_;refine aI hp ?_
    by_cases h1:0<=((D.ms.getD kn default).ins.getD i default).init/\((D.ms.getD kn default).ins.getD i default).init<=4
    ·refine bQ hp Tryz.func79 ((cE ((D.ms.getD kn default).ins.getD i default).init 0 4 _).yes h1) ?_;intro w hx hp
     refine aM ?_
     refine aR [2,5,10,11,12,13,14] (fun(j:Nat)=>[(2,.pointer (some ⟨b2,0,none⟩)),(5,.pointer (some ⟨b5,0,none⟩)),(10,.int .i64 (i:Int)),(11,.pointer (some ⟨wX,0,none⟩)),(12,.pointer (some ⟨ti,0,none⟩)),(13,.slice bp (gS (D.ms.getD q default).n).length cp),(14,.int .i64 (j:Int))])
      (fun j w'=>(j<=(gS (D.ms.getD q default).n).length/\∀j2,j2<j->dr (D.ms.getD kn default).n (((D.ms.getD kn default).ins.getD i default).ins.getD j2 default))/\Hp w0 w' [rO 3 1 eI bp cp (gS (D.ms.getD q default).n),rB ti 41 (D.ms.getD q default).cs,rB wX 150 (ke ((D.ms.getD kn default).ins.getD i default)),rB b5 41 (D.ms.getD kn default).cs,rB b2 136 D.cs]) (fun j=>(gS (D.ms.getD q default).n).length-j) 0 rfl ⟨⟨by omega,fun j hj=>by omega⟩,hp⟩ ?_
     clear hp
     rintro j w1 ⟨⟨hj,IQ⟩,hp⟩ kE C
     refine bL ?_
     apply ae<;>intro jK
     ·have zf:j<(gS (D.ms.getD q default).n).length:=by omega
      have MR:=Cq (D.ms.getD q default).n zf
      change _/\(gS (D.ms.getD q default).n).getD j default<((D.ms.getD q default).sg.length:Int) at MR
      refine aN ?_
      refine j7 hp ?_;intro w hx hp;have hs:=hp;(repeat(refine ah ?_;first|refine dN ?_|refine fc ?_))
      refine oW Tryz.func170 (ig (D.ms.getD kn default) (((D.ms.getD kn default).ins.getD i default).ins.getD j default) _ hp.mod s1) ?_;rintro _ w ⟨rfl,hx⟩;have hp:=hp.ext hx;have hs:=hs.ext hx;refine⟨fun _=>hs,?_⟩;refine fO ?_
      (first|apply fx|apply cf)<;>intro g1 e<;>rw[e]<;>clear e;all_goals((repeat(first|(refine aG ?_;first|refine cx rfl rfl rfl ?_|refine dB rfl rfl rfl ?_)|(refine ah ?_;first|refine dN ?_|refine fc ?_|refine iC rfl (by omega) (by omega) rfl rfl rfl ?_))))
      ·skip
       refine aN ?_;refine aq ?_
       exact⟨false,⟨rfl,fun h=>Bool.noConfusion h⟩,hp.x⟩
      ·(first|apply fx|apply cf)<;>intro g2 e<;>rw[e]<;>clear e;all_goals((repeat(first|(refine aG ?_;first|refine cx rfl rfl rfl ?_|refine dB rfl rfl rfl ?_)|(refine ah ?_;first|refine dN ?_|refine fc ?_))))
       ·by_cases g3:si (D.ms.getD kn default).n (((D.ms.getD kn default).ins.getD i default).ins.getD j default)
        ·refine oW Tryz.func169 ((fC (D.ms.getD kn default) (((D.ms.getD kn default).ins.getD i default).ins.getD j default) _ hp.mod s1).tt (cR.2 g3)) ?_;rintro _ w ⟨rfl,hx⟩;have hp:=hp.ext hx;have hs:=hs.ext hx;refine⟨fun _=>hs,?_⟩;refine fO ?_;(repeat(refine cx rfl rfl rfl ?_))
         skip
         refine aM ?_
         refine kE (j+1) _ _ _ (by omega) rfl ⟨⟨by omega,fun j2 dC=> ?_⟩,hp⟩
         by_cases Iu:j2<j
         ·exact IQ j2 Iu
         ·obtain rfl:j2=j:=by omega
          exact AW g1
        ·refine oW Tryz.func169 ((fC (D.ms.getD kn default) (((D.ms.getD kn default).ins.getD i default).ins.getD j default) _ hp.mod s1).ff (bt g3)) ?_;rintro _ w ⟨rfl,hx⟩;have hp:=hp.ext hx;have hs:=hs.ext hx;refine⟨fun _=>hs,?_⟩;refine fO ?_;(repeat(refine cx rfl rfl rfl ?_))
         skip
         refine aN ?_;refine aq ?_
         exact⟨false,⟨rfl,fun h=>Bool.noConfusion h⟩,hp.x⟩
       ·skip
        refine aM ?_
        refine kE (j+1) _ _ _ (by omega) rfl ⟨⟨by omega,fun j2 dC=> ?_⟩,hp⟩
        by_cases Iu:j2<j
        ·exact IQ j2 Iu
        ·obtain rfl:j2=j:=by omega
         exact AW g1
     ·refine aM ?_
      refine IH (i+1) _ _ _ (by omega) rfl ⟨⟨by omega,fun m hm=> ?_⟩,hp.drop.drop.drop⟩
      by_cases Fb:m<i
      ·exact yQ m Fb
      ·obtain rfl:m=i:=by omega
       exact⟨h1,fun j2 dC=>IQ j2 (by omega)⟩
    ·refine bQ hp Tryz.func79 ((cE ((D.ms.getD kn default).ins.getD i default).init 0 4 _).no h1) ?_;intro w hx hp
     refine aN ?_;refine aq ?_
     exact⟨false,⟨rfl,fun h=>Bool.noConfusion h⟩,hp.x⟩
   ·refine aM ?_
    obtain rfl:i=(D.ms.getD kn default).ins.length:=by omega
    clear IH
    refine aR [5,15] (fun(i:Nat)=>[(5,.pointer (some ⟨b5,0,none⟩)),(15,.int .i64 (i:Int))])
     (fun i w'=>(i<=(D.ms.getD kn default).ms.length/\∀m,m<i->dr (D.ms.getD kn default).n ((D.ms.getD kn default).ms.getD m default).addr/\dr (D.ms.getD kn default).n ((D.ms.getD kn default).ms.getD m default).data/\dr (D.ms.getD kn default).n ((D.ms.getD kn default).ms.getD m default).write/\dr (D.ms.getD kn default).n ((D.ms.getD kn default).ms.getD m default).out)/\Hp w0 w' [rB b5 41 (D.ms.getD kn default).cs,rB b2 136 D.cs]) (fun i=>(D.ms.getD kn default).ms.length-i) 0 rfl ⟨⟨by omega,fun j hj=>by omega⟩,hp⟩ ?_
    clear hp
    rintro i w1 ⟨⟨hi,Hd⟩,hp⟩ IH C
    refine bL ?_;refine aI hp ?_
    apply ae<;>intro bD
    ·have aF:i<(D.ms.getD kn default).ms.length:=by omega
     refine aN ?_;(repeat(refine ah ?_;first|refine aI hp ?_|refine bb hp ?_))
     refine bP hp ?_;intro w Xo hx hp;refine az ?_;(repeat(first|(refine ah ?_;refine aI hp ?_)|(refine aH ?_;refine aW hp ?_;intro w hp;refine az ?_)))
     refine bQ hp Tryz.func170 (ig (D.ms.getD kn default) ((D.ms.getD kn default).ms.getD i default).addr _ hp.mod s1) ?_;intro w hx hp
     (first|apply fx|apply cf)<;>intro g1 e<;>rw[e]<;>clear e;all_goals((repeat(first|(refine aG ?_;first|refine aO ?_|refine ba ?_)|(refine ah ?_;refine aI hp ?_))))
     ·refine aN ?_;refine aq ?_
      exact⟨false,⟨rfl,fun h=>Bool.noConfusion h⟩,hp.x⟩
     ·refine bQ hp Tryz.func170 (ig (D.ms.getD kn default) ((D.ms.getD kn default).ms.getD i default).data _ hp.mod s1) ?_;intro w hx hp;refine aO ?_
      (first|apply fx|apply cf)<;>intro g2 e<;>rw[e]<;>clear e;all_goals((repeat(first|(refine aG ?_;first|refine aO ?_|refine ba ?_)|(refine ah ?_;refine aI hp ?_))))
      ·refine aN ?_;refine aq ?_
       exact⟨false,⟨rfl,fun h=>Bool.noConfusion h⟩,hp.x⟩
      ·refine bQ hp Tryz.func170 (ig (D.ms.getD kn default) ((D.ms.getD kn default).ms.getD i default).write _ hp.mod s1) ?_;intro w hx hp;refine aO ?_
       (first|apply fx|apply cf)<;>intro g3 e<;>rw[e]<;>clear e;all_goals((repeat(first|(refine aG ?_;first|refine aO ?_|refine ba ?_)|(refine ah ?_;refine aI hp ?_))))
       ·refine aN ?_;refine aq ?_
        exact⟨false,⟨rfl,fun h=>Bool.noConfusion h⟩,hp.x⟩
       ·by_cases g4:si (D.ms.getD kn default).n ((D.ms.getD kn default).ms.getD i default).out
        ·refine bQ hp Tryz.func169 ((fC (D.ms.getD kn default) ((D.ms.getD kn default).ms.getD i default).out _ hp.mod s1).tt (cR.2 g4)) ?_;intro w hx hp;refine aO ?_
         refine aM ?_
         refine IH (i+1) _ _ _ (by omega) rfl ⟨⟨by omega,fun m hm=> ?_⟩,hp.drop⟩
         by_cases Fb:m<i
         ·exact Hd m Fb
         ·obtain rfl:m=i:=by omega
          exact⟨AW g1,AW g2,AW g3,g4.1⟩
        ·refine bQ hp Tryz.func169 ((fC (D.ms.getD kn default) ((D.ms.getD kn default).ms.getD i default).out _ hp.mod s1).ff (bt g4)) ?_;intro w hx hp;refine aO ?_
         refine aN ?_;refine aq ?_
         exact⟨false,⟨rfl,fun h=>Bool.noConfusion h⟩,hp.x⟩
    ·refine aM ?_;refine aq ?_
     obtain rfl:i=(D.ms.getD kn default).ms.length:=by omega
     refine⟨true,⟨rfl,fun _=>⟨by omega,hC,zM,fun j hj=>(has j hj).1,fun j hj=>(has j hj).2,fun j hj=>(yQ j hj).1,fun j hj=>(yQ j hj).2,Hd⟩⟩,hp.x⟩
theorem FT (D:ku)(w0:World)(hD:vr w0 D)(hO:Ed D.ms):
  bN Tryz.prog 75 [D.v] w0 (fun v w=>∃b,(v= .bool b/\(b=true->1<=D.ms.length/\∀k,k<D.ms.length->Xv D.ms k))/\Ext w0 w):=by
 refine eu Tryz.Oi ?_;intro C hp;skip;refine bP hp ?_;intro w b1 hx hp;refine az ?_;refine aI hp ?_
 by_cases h1:1<=(D.ms.length:Int)/\(D.ms.length:Int)<=4
 ·refine bQ hp Tryz.func79 ((cE D.ms.length 1 4 _).yes h1) ?_;intro w hx hp
  refine aM ?_
  refine aR [1,3] (fun(i:Nat)=>[(1,.pointer (some ⟨b1,0,none⟩)),(3,.int .i64 (i:Int))])
   (fun i w'=>(i<=D.ms.length/\∀k,k<i->Xv D.ms k)/\Hp w0 w' [rB b1 136 D.cs]) (fun i=>D.ms.length-i) 0 rfl ⟨⟨by omega,fun k hk=>by omega⟩,hp⟩ ?_
  clear hp
  rintro i w1 ⟨⟨hi,aS⟩,hp⟩ IH C
  refine bL ?_;refine aI hp ?_
  apply ae<;>intro bD
  ·have aF:i<D.ms.length:=by omega
   refine aN ?_;refine aI hp ?_
   refine cy Tryz.func135 (FR D i _ hp.Th hO) ?_;rintro _ w ⟨b,⟨rfl,hb⟩,hx⟩;have hp:=hp.ext hx;refine az ?_
   cases b
   ·refine aN ?_;refine aq ?_
    exact⟨false,⟨rfl,fun h=>Bool.noConfusion h⟩,hp.x⟩
   obtain⟨_,hM⟩:=hb rfl
   rw[Int.toNat_natCast] at hM
   refine aM ?_
   refine IH (i+1) _ _ _ (by omega) rfl ⟨⟨by omega,fun k hk=> ?_⟩,hp⟩
   by_cases p6:k<i
   ·exact aS k p6
   ·obtain rfl:k=i:=by omega
    exact hM
  ·refine aM ?_;refine aq ?_
   obtain rfl:i=D.ms.length:=by omega
   exact⟨true,⟨rfl,fun _=>⟨by omega,aS⟩⟩,hp.x⟩
 ·refine bQ hp Tryz.func79 ((cE D.ms.length 1 4 _).no h1) ?_;intro w hx hp
  refine aN ?_;refine aq ?_
  exact⟨false,⟨rfl,fun h=>Bool.noConfusion h⟩,hp.x⟩
end Go.Proofs
