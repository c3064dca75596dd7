/- The contracts of the functions that count a net's nodes and check it; each under its stated conditions. -/
import Derived.Test.YtiepmliokblkjaaGreatBrf
import Derived.Test.YtiepmliokblkjaaGreatNet
set_option linter.all false
namespace Go.Proofs
open Go.Xw
set_option maxRecDepth 100000
set_option maxHeartbeats 1000000
attribute [local irreducible] ax aE
theorem jS (x:bf)(w0:World)(hb:xL x):bN Tryz.prog 128 [x.v] w0 (fun v w'=>v= .int .i64 (ag x.n)/\Ext w0 w'):=by
 obtain⟨h1,h2,h3⟩:=hb
 rw[iU]
 refine eu Tryz.Qw ?_;intro C hp;skip;refine bP hp ?_;intro w b1 hx hp;refine az ?_;(repeat(first|(refine ah ?_;refine aI hp ?_)|refine aq ?_))
 exact⟨rfl,hp.x⟩
theorem iG (x:bf)(w0:World)(hb:xL x):bN Tryz.prog 70 [x.v] w0 (fun v w'=>v= .int .i64 (aB x.n)/\Ext w0 w'):=by
 obtain⟨h1,h2,h3⟩:=hb
 rw[eD]
 refine eu Tryz.Vm ?_;intro C hp;skip;refine bP hp ?_;intro w b1 hx hp;refine az ?_;refine aI hp ?_;refine aI hp ?_;refine aq ?_
 exact⟨rfl,hp.x⟩
theorem E1 (x:bf)(w0:World)(hb:xL x):bN Tryz.prog 164 [x.v] w0 (fun v w'=>v= .int .i64 (1+x.aT)/\Ext w0 w'):=by
 obtain⟨h1,h2,h3⟩:=hb
 refine eu Tryz.Q5 ?_;intro C hp;skip;refine bP hp ?_;intro w b1 hx hp;refine az ?_;refine aI hp ?_;refine aq ?_
 exact⟨rfl,hp.x⟩
theorem jG (x:bf)(w0:World)(hb:xL x):bN Tryz.prog 137 [x.v] w0 (fun v w'=>v= .int .i64 (aB x.n)/\Ext w0 w'):=by
 obtain⟨h1,h2,h3⟩:=hb
 rw[eD]
 refine eu Tryz.QC ?_;intro C hp;skip;refine bP hp ?_;intro w b1 hx hp;refine az ?_;refine aI hp ?_;refine aI hp ?_;refine aq ?_
 exact⟨rfl,hp.x⟩
theorem wj (x:bf)(w0:World):bN Tryz.prog 125 [x.v] w0 (fun v w'=>v= .int .i64 (cM x.n)/\Ext w0 w'):=by
 have hs:=jF x
 refine eu Tryz.Qt ?_;intro C hp;skip;refine bP hp ?_;intro w b1 hx hp;refine az ?_;refine aI hp ?_
 by_cases h1:0<=x.aT/\x.aT<=20
 ·refine bQ hp Tryz.func124 ((bB x.aT 0 20 _).yes h1) ?_;intro w hx hp;(repeat(first|(refine aG ?_;refine aO ?_)|(refine ah ?_;refine aI hp ?_)))
  (first|apply fx|apply cf)<;>intro h2 e<;>rw[e]<;>clear e;all_goals((repeat(first|(refine aG ?_;first|refine aO ?_|refine ba ?_)|(refine ah ?_;refine aI hp ?_))))
  ·refine aN ?_;refine aq ?_
   exact⟨by rw[cM,if_neg (fun hh=>by have:=hs.1 hh;omega)],hp.x⟩
  ·(first|apply fx|apply cf)<;>intro h3 e<;>rw[e]<;>clear e;all_goals((repeat(first|(refine aG ?_;first|refine aO ?_|refine ba ?_)|(refine ah ?_;refine aI hp ?_))))
   ·refine aN ?_;refine aq ?_
    exact⟨by rw[cM,if_neg (fun hh=>by have:=hs.1 hh;omega)],hp.x⟩
   ·apply ae<;>intro h4
    ·refine aN ?_;refine aq ?_
     exact⟨by rw[cM,if_neg (fun hh=>by have:=hs.1 hh;omega)],hp.x⟩
    ·have aS:fT x.n:=hs.2 ⟨h1,by omega,by omega,by omega⟩
     refine aM ?_;refine aI hp ?_
     refine bQ hp Tryz.func128 (jS x _ (qx aS)) ?_;intro w hx hp;refine aq ?_
     exact⟨by rw[cM,if_pos aS],hp.x⟩
 ·refine bQ hp Tryz.func124 ((bB x.aT 0 20 _).no h1) ?_;intro w hx hp;(repeat(refine ba ?_))
  refine aN ?_;refine aq ?_
  exact⟨by rw[cM,if_neg (fun hh=>by have:=hs.1 hh;omega)],hp.x⟩
theorem gY (x:bf)(w0:World):bN Tryz.prog 82 [x.v] w0 (fun v w'=>v= .int .i64 (cM x.n)/\Ext w0 w'):=by
 have hs:=jF x
 have vv:=iU x
 refine eu Tryz.Vv ?_;intro C hp;skip;refine bP hp ?_;intro w b1 hx hp;refine az ?_;refine aI hp ?_
 by_cases h1:0<=x.aT/\x.aT<=20
 ·refine bQ hp Tryz.func79 ((cE x.aT 0 20 _).yes h1) ?_;intro w hx hp;(repeat(first|(refine aG ?_;refine aO ?_)|(refine ah ?_;refine aI hp ?_)))
  (first|apply fx|apply cf)<;>intro h2 e<;>rw[e]<;>clear e;all_goals((repeat(first|(refine aG ?_;first|refine aO ?_|refine ba ?_)|(refine ah ?_;refine aI hp ?_))))
  ·refine aN ?_;refine aq ?_
   exact⟨by rw[cM,if_neg (fun hh=>by have:=hs.1 hh;omega)],hp.x⟩
  ·(first|apply fx|apply cf)<;>intro h3 e<;>rw[e]<;>clear e;all_goals((repeat(first|(refine aG ?_;first|refine aO ?_|refine ba ?_)|(refine ah ?_;refine aI hp ?_))))
   ·refine aN ?_;refine aq ?_
    exact⟨by rw[cM,if_neg (fun hh=>by have:=hs.1 hh;omega)],hp.x⟩
   ·apply ae<;>intro h4
    ·refine aN ?_;refine aq ?_
     exact⟨by rw[cM,if_neg (fun hh=>by have:=hs.1 hh;omega)],hp.x⟩
    ·have aS:fT x.n:=hs.2 ⟨h1,by omega,by omega,by omega⟩
     refine aM ?_;(repeat(first|(refine ah ?_;refine aI hp ?_)|refine aq ?_))
     exact⟨by rw[cM,if_pos aS,vv],hp.x⟩
 ·refine bQ hp Tryz.func79 ((cE x.aT 0 20 _).no h1) ?_;intro w hx hp;(repeat(refine ba ?_))
  refine aN ?_;refine aq ?_
  exact⟨by rw[cM,if_neg (fun hh=>by have:=hs.1 hh;omega)],hp.x⟩
theorem E2 (a:Option Addr)(c:Nat)(xs:List Int)(w0:World)(ha:Rd w0 a 1 eI xs)(hl:xs.length<=100000000):
  bN Tryz.prog 163 [.slice a xs.length c] w0 (fun v w=>∃b c,v= .slice b xs.length c/\Hp w0 w [rO 3 1 eI b c xs]):=by
 refine eu Tryz.QZ ?_;intro C hp;refine gG hp ?_;intro w _ hx hp;refine az ?_
 refine gT hp ?_;intro b c w hp bZ;refine az ?_;refine aq ?_
 exact⟨b,c,rfl,hp⟩
theorem vK (x:bf)(w0:World)(hX:fG w0 x)(hn:x.au.length<=1000000000)(hl:∀i,i<=x.au.length->(bR x.n i).length<=100000000):
  bN Tryz.prog 127 [x.v] w0 (fun v w=>∃b c,v= .slice b (bc x.n).length c/\Hp w0 w [rO 3 1 eI b c (bc x.n)]):=by
 have h0:=hl 0 (by omega)
 simp only[bR] at h0
 have h0:x.outs.length<=100000000:=h0
 refine eu Tryz.Qv ?_;intro C hp;skip;refine bP hp ?_;intro w b1 hx hp;refine az ?_;refine aI hp ?_
 refine cy Tryz.func163 (E2 _ _ x.outs _ hp.rd (by omega)) ?_;rintro _ w ⟨a3,c3,rfl,hq⟩;have hx:=hq.x;have hp:=hp.bJ hq;refine az ?_;refine aI hp ?_
 refine eg [3,10,11,12] (fun(i:Nat) (a:Option Addr) (c:Nat)=>[(3,.slice a (bR x.n i).length c),(10,.slice x.sa x.au.length x.sc),(11,.int .i64 x.au.length),(12,.int .i64 (i:Int))])
  (fun i a c w'=>i<=x.au.length/\Hp w0 w' [rO 3 1 eI a c (bR x.n i)]) (fun i _ _=>x.au.length-i) 0 a3 c3 rfl ⟨by omega,hp.sub (by simp;exact .inl rfl)⟩ ?_
 rintro i a c w1 ⟨hi,hp⟩ IH C
 refine bL ?_
 apply ae<;>intro bD
 ·have aF:i<x.au.length:=by omega
  have vL:=hl (i+1) (by omega)
  simp only[bR,List.length_append,x.rT] at vL
  have jg:=hX.au.at_ aF
  refine aN ?_;refine bb hp ?_
  refine bP hp ?_;intro w b5 hx hp;refine az ?_;(repeat(first|(refine ah ?_;refine aI hp ?_)|(refine aH ?_;refine aW hp ?_;intro w hp;refine az ?_)))
  refine gT hp ?_;intro a' c' w hp bZ;refine az ?_
  refine IH (i+1) a' c' _ _ _ (by omega) (by rw[show bR x.n (i+1)=bR x.n i++(x.au.getD i default).ins by rw[bR,x.rT]];rfl) ⟨by omega,?_⟩
  rw[show bR x.n (i+1)=bR x.n i++(x.au.getD i default).ins by rw[bR,x.rT]]
  exact hp.drop
 ·refine aM ?_;refine aq ?_
  obtain rfl:i=x.au.length:=by omega
  exact⟨a,c,by rw[bc,x.fE],by rw[bc,x.fE];exact hp⟩
theorem vM (x:bf)(w0:World)(hX:fG w0 x)(hn:x.au.length<=1000000000)(hl:∀i,i<=x.au.length->(bR x.n i).length<=100000000):
  bN Tryz.prog 136 [x.v] w0 (fun v w=>∃b c,v= .slice b (bc x.n).length c/\Hp w0 w [rO 3 1 eI b c (bc x.n)]):=by
 have h0:=hl 0 (by omega)
 simp only[bR] at h0
 have h0:x.outs.length<=100000000:=h0
 refine eu Tryz.QB ?_;intro C hp;skip;refine bP hp ?_;intro w b1 hx hp;refine az ?_;(repeat(first|(refine ah ?_;refine aI hp ?_)|(refine bK ?_;refine gG hp ?_;intro w _ hx hp;refine az ?_)))
 refine gT hp ?_;intro a3 c3 w hp bZ;refine az ?_
 refine eg [1,3,4] (fun(i:Nat) (a:Option Addr) (c:Nat)=>[(1,.pointer (some ⟨b1,0,none⟩)),(3,.slice a (bR x.n i).length c),(4,.int .i64 (i:Int))])
  (fun i a c w'=>i<=x.au.length/\Hp w0 w' [rO 3 1 eI a c (bR x.n i),rB b1 33 x.cs]) (fun i _ _=>x.au.length-i) 0 a3 c3 rfl ⟨by omega,hp⟩ ?_
 rintro i a c w1 ⟨hi,hp⟩ IH C
 refine bL ?_;refine aI hp ?_
 apply ae<;>intro bD
 ·have aF:i<x.au.length:=by omega
  have vL:=hl (i+1) (by omega)
  simp only[bR,List.length_append,x.rT] at vL
  have jg:=hX.au.at_ aF
  refine aN ?_;(repeat(refine ah ?_;first|refine aI hp ?_|refine dg hp ?_))
  refine gT hp ?_;intro a' c' w hp bZ;refine az ?_
  refine IH (i+1) a' c' _ _ _ (by omega) (by rw[show bR x.n (i+1)=bR x.n i++(x.au.getD i default).ins by rw[bR,x.rT]];rfl) ⟨by omega,?_⟩
  rw[show bR x.n (i+1)=bR x.n i++(x.au.getD i default).ins by rw[bR,x.rT]]
  exact hp
 ·refine aM ?_;refine aq ?_
  obtain rfl:i=x.au.length:=by omega
  exact⟨a,c,by rw[bc,x.fE],by rw[bc,x.fE];exact hp.sub (by simp)⟩
theorem Gp (s:dO)(w0:World)(hl:s.ins.length<=1000000000):bN Tryz.prog 126 [.agg ⟨ke s⟩] w0 (fun v w'=>v= .bool (decide (iF s.s))/\Ext w0 w'):=by
 have key:iF s.s↔(s.kind=0/\(0<=s.init/\s.init<=1)/\s.ins.length=1)\/(s.kind=1/\(0<=s.init/\s.init<=31)/\s.ins.length=4):= .rfl
 refine eu Tryz.Qu ?_;intro C hp;skip;refine bP hp ?_;intro w b1 hx hp;refine az ?_;refine aI hp ?_
 apply ae<;>intro h
 ·refine aN ?_;refine aI hp ?_
  by_cases h1:0<=s.init/\s.init<=1
  ·refine bQ hp Tryz.func124 ((bB _ 0 1 _).yes h1) ?_;intro w hx hp;(repeat(first|(refine aG ?_;refine aO ?_)|(refine ah ?_;refine aI hp ?_)|refine aq ?_))
   exact⟨by simp only[key,h,h1];simp;omega,hp.x⟩
  ·refine bQ hp Tryz.func124 ((bB _ 0 1 _).no h1) ?_;intro w hx hp;(repeat(first|(refine aG ?_;refine ba ?_)|refine aq ?_))
   exact⟨by simp only[key,h,h1];simp,hp.x⟩
 ·refine aM ?_
  apply ae<;>intro h2
  ·refine aN ?_;refine aI hp ?_
   by_cases h1:0<=s.init/\s.init<=31
   ·refine bQ hp Tryz.func124 ((bB _ 0 31 _).yes h1) ?_;intro w hx hp;(repeat(first|(refine aG ?_;refine aO ?_)|(refine ah ?_;refine aI hp ?_)|refine aq ?_))
    exact⟨by simp only[key,h2,h1];simp;omega,hp.x⟩
   ·refine bQ hp Tryz.func124 ((bB _ 0 31 _).no h1) ?_;intro w hx hp;(repeat(first|(refine aG ?_;refine ba ?_)|refine aq ?_))
    exact⟨by simp only[key,h2,h1];simp,hp.x⟩
  ·refine aM ?_;refine aq ?_
   exact⟨by simp only[key,h,h2];simp,hp.x⟩
theorem lj (x:bf)(w0:World)(hX:fG w0 x)(hS:kK x.n):bN Tryz.prog 68 [x.v] w0 (fun v w'=>v= .bool (nP x.n)/\Ext w0 w'):=by
 have hk:=jF x
 have vv:=iU x
 have IG:=eD x
 refine eu Tryz.Vk ?_;intro C hp;skip;refine bP hp ?_;intro w b1 hx hp;refine az ?_;refine aI hp ?_
 refine bQ hp Tryz.func125 (wj x _) ?_;intro w hx hp
 apply ae<;>intro h0
 ·refine aN ?_;refine aq ?_
  have gM:¬aj x.n:=fun h=>by have:=kX.2 h.size;exact this h0
  exact⟨by rw[cY gM],hp.x⟩
 ·have hs:=kX.1 h0
  have jw:=hk.1 hs
  have xM:cM x.n=ag x.n:=if_pos hs
  rw[xM]
  have Ol:∀j,j<x.au.length->(x.au.getD j default).ins.length<=1000000000:=fun j hj=>by
   have:=hS.ins j (by rw[x.fE];exact hj)
   rw[x.rT] at this;omega
  refine aM ?_;refine aI hp ?_
  refine aR [1,3,16,17,18] (fun(i:Nat)=>[(1,.pointer (some ⟨b1,0,none⟩)),(3,.int .i64 (ag x.n)),(16,.slice x.sa x.au.length x.sc),(17,.int .i64 x.au.length),(18,.int .i64 (i:Int))])
   (fun i w'=>i<=x.au.length/\(∀j,j<i->iF (x.au.getD j default).s)/\Hp w0 w' [rB b1 33 x.cs]) (fun i=>x.au.length-i) 0 rfl ⟨by omega,fun j hj=>by omega,hp⟩ ?_
  rintro i w1 ⟨hi,dL,hp⟩ IH C
  refine bL ?_
  apply ae<;>intro bD
  ·have aF:i<x.au.length:=by omega
   refine aN ?_;refine bb hp ?_
   refine bP hp ?_;intro w b5 hx hp;refine az ?_;(repeat(first|(refine ah ?_;refine aI hp ?_)|(refine aH ?_;refine aW hp ?_;intro w hp;refine az ?_)))
   by_cases aS:iF (x.au.getD i default).s
   ·refine bQ hp Tryz.func126 ((Gp (x.au.getD i default) _ (Ol i aF)).yes aS) ?_;intro w hx hp
    refine aM ?_
    refine IH (i+1) _ _ _ (by omega) rfl ⟨by omega,fun j hj=> ?_,hp.drop⟩
    by_cases dC:j<i
    ·exact dL j dC
    ·obtain rfl:j=i:=by omega
     exact aS
   ·refine bQ hp Tryz.func126 ((Gp (x.au.getD i default) _ (Ol i aF)).no aS) ?_;intro w hx hp
    refine aN ?_;refine aq ?_
    have gM:¬aj x.n:=fun h=>aS (by have:=h.au i (by rw[x.fE];exact aF);rwa[x.tF] at this)
    exact⟨by rw[cY gM],hp.x⟩
  ·refine aM ?_;refine aI hp ?_
   obtain rfl:i=x.au.length:=by omega
   have Lx:=nQ hs (Nat.le_refl _) dL
   have hbL:(bc x.n).length<=100:=by rw[bc,x.fE];exact Lx _ (Nat.le_refl _)
   refine cy Tryz.func127 (vK x _ hp.dR (by omega) (fun i hi=>by have:=Lx i hi;omega)) ?_;rintro _ w ⟨a2,c2,rfl,hq⟩;have hx:=hq.x;have hp:=hp.bJ hq;refine az ?_
   refine aR [1,3,27,28,29] (fun(i:Nat)=>[(1,.pointer (some ⟨b1,0,none⟩)),(3,.int .i64 (ag x.n)),(27,.slice a2 (bc x.n).length c2),(28,.int .i64 (bc x.n).length),(29,.int .i64 (i:Int))])
    (fun i w'=>i<=(bc x.n).length/\(∀j,j<i->aD ((bc x.n).getD j default) (ag x.n))/\Hp w0 w' [rO 3 1 eI a2 c2 (bc x.n),rB b1 33 x.cs]) (fun i=>(bc x.n).length-i) 0 rfl ⟨by omega,fun j hj=>by omega,hp⟩ ?_
   rintro i w1 ⟨hi,xN,hp⟩ IH C
   refine bL ?_
   apply ae<;>intro bD
   ·have aF:i<(bc x.n).length:=by omega
    refine aN ?_;refine bb hp ?_
    by_cases aS:aD ((bc x.n).getD i default) (ag x.n)
    ·have E3:=aS
     unfold aD at E3
     refine bQ hp Tryz.func124 ((bB ((bc x.n).getD i default) 0 (2*ag x.n-1) _).yes (by omega)) ?_;intro w hx hp
     refine aM ?_
     refine IH (i+1) _ _ _ (by omega) rfl ⟨by omega,fun j hj=> ?_,hp⟩
     by_cases dC:j<i
     ·exact xN j dC
     ·obtain rfl:j=i:=by omega
      exact aS
    ·have E3:=aS
     unfold aD at E3
     refine bQ hp Tryz.func124 ((bB ((bc x.n).getD i default) 0 (2*ag x.n-1) _).no (by omega)) ?_;intro w hx hp
     refine aN ?_;refine aq ?_
     have gM:¬aj x.n:=fun h=>aS (h.roots i aF)
     exact⟨by rw[cY gM],hp.x⟩
   ·refine aM ?_;refine aI hp ?_
    obtain rfl:i=(bc x.n).length:=by omega
    refine aR [1,41,42,43] (fun(i:Nat)=>[(1,.pointer (some ⟨b1,0,none⟩)),(41,.slice x.aa x.af.length x.ac),(42,.int .i64 x.af.length),(43,.int .i64 (i:Int))])
     (fun i w'=>i<=x.af.length/\(∀j,j<i->aD (x.af.getD j default).1 (aB x.n+j)/\aD (x.af.getD j default).2 (aB x.n+j))/\Hp w0 w' [rB b1 33 x.cs]) (fun i=>x.af.length-i) 0 rfl ⟨by omega,fun j hj=>by omega,hp.drop⟩ ?_
    rintro i w1 ⟨hi,C5,hp⟩ IH C
    refine bL ?_
    apply ae<;>intro bD
    ·have aF:i<x.af.length:=by omega
     refine aN ?_;refine bb hp ?_
     refine bP hp ?_;intro w b9 hx hp;refine az ?_;(repeat(first|(refine ah ?_;refine aI hp ?_)|(refine aH ?_;refine aW hp ?_;intro w hp;refine az ?_)))
     refine bQ hp Tryz.func70 (iG x _ (qx hs)) ?_;intro w hx hp;refine aI hp ?_
     by_cases nR:aD (x.af.getD i default).1 (aB x.n+i)
     ·have Jy:=nR
      unfold aD at Jy
      refine bQ hp Tryz.func124 ((bB (x.af.getD i default).1 0 (2*(aB x.n+i)-1) _).yes (by omega)) ?_;intro w hx hp;(repeat(first|(refine aG ?_;refine aO ?_)|(refine ah ?_;refine aI hp ?_)))
      by_cases aS:aD (x.af.getD i default).2 (aB x.n+i)
      ·have E3:=aS
       unfold aD at E3
       refine bQ hp Tryz.func124 ((bB (x.af.getD i default).2 0 (2*(aB x.n+i)-1) _).yes (by omega)) ?_;intro w hx hp;refine aO ?_
       refine aM ?_
       refine IH (i+1) _ _ _ (by omega) rfl ⟨by omega,fun j hj=> ?_,hp.drop⟩
       by_cases dC:j<i
       ·exact C5 j dC
       ·obtain rfl:j=i:=by omega
        exact⟨nR,aS⟩
      ·have E3:=aS
       unfold aD at E3
       refine bQ hp Tryz.func124 ((bB (x.af.getD i default).2 0 (2*(aB x.n+i)-1) _).no (by omega)) ?_;intro w hx hp;refine aO ?_
       refine aN ?_;refine aq ?_
       have gM:¬aj x.n:=fun h=>aS (h.af i aF).2
       exact⟨by rw[cY gM],hp.x⟩
     ·have Jy:=nR
      unfold aD at Jy
      refine bQ hp Tryz.func124 ((bB (x.af.getD i default).1 0 (2*(aB x.n+i)-1) _).no (by omega)) ?_;intro w hx hp;(repeat(refine ba ?_))
      refine aN ?_;refine aq ?_
      have gM:¬aj x.n:=fun h=>nR (h.af i aF).1
      exact⟨by rw[cY gM],hp.x⟩
    ·refine aM ?_;refine aq ?_
     obtain rfl:i=x.af.length:=by omega
     have HT:aj x.n:=⟨hs,fun j hj=>by rw[x.tF];exact dL j (by rw[x.fE] at hj;exact hj),xN,C5⟩
     exact⟨by rw[fj HT],hp.x⟩
theorem Bv (x:bf)(w0:World)(hX:fG w0 x)(aS:aj x.n):
  bN Tryz.prog 127 [x.v] w0 (fun v w=>∃b c,v= .slice b (bc x.n).length c/\Hp w0 w [rO 3 1 eI b c (bc x.n)]):=
 vK x w0 hX (by have:=aS.jR;omega) fun i hi=>by have:=aS.bound i hi;omega
theorem Bw (x:bf)(w0:World)(hX:fG w0 x)(aS:aj x.n):
  bN Tryz.prog 136 [x.v] w0 (fun v w=>∃b c,v= .slice b (bc x.n).length c/\Hp w0 w [rO 3 1 eI b c (bc x.n)]):=
 vM x w0 hX (by have:=aS.jR;omega) fun i hi=>by have:=aS.bound i hi;omega
theorem eV (x k:Int)(w0:World)(hx:da x):bN Tryz.prog 81 [.int .i64 x,.int .i64 k] w0 (fun v w'=>v= .bool (decide (aD x k))/\Ext w0 w'):=by
 unfold da at hx
 refine eu Tryz.Vu ?_;intro C hp
 (first|apply fx|apply cf)<;>intro h e<;>rw[e]<;>clear e;all_goals((repeat(first|(refine aG ?_;first|refine aO ?_|refine ba ?_)|refine aq ?_)))
 ·exact⟨by simp[aD,h],hp.x⟩
 ·exact⟨by simp[aD,h],hp.x⟩
theorem Al {n:ao}(hW:nq n):∀m,m<=n.au.length->∀i,i<(bR n m).length->da ((bR n m).getD i default)
 |0,_,i,hi=>hW.outs i hi
 |m+1,hm,i,hi=>by
  have ih:=Al hW m (by omega)
  simp only[bR,List.length_append] at hi
  simp only[bR,List.getD_eq_getElem?_getD]
  rcases Nat.lt_or_ge i (bR n m).length with h|h
  ·rw[List.getElem?_append_left h]
   have:=ih i h
   rwa[List.getD_eq_getElem?_getD] at this
  ·rw[List.getElem?_append_right h]
   have:=hW.ins m (by omega) (i-(bR n m).length) (by omega)
   rwa[List.getD_eq_getElem?_getD] at this
theorem eZ (x:bf)(w0:World)(hX:fG w0 x)(hS:kK x.n)(hW:nq x.n):bN Tryz.prog 77 [x.v] w0 (fun v w'=>v= .bool (nP x.n)/\Ext w0 w'):=by
 have hk:=jF x
 have vv:=iU x
 have IG:=eD x
 refine eu Tryz.Vq ?_;intro C hp;skip;refine bP hp ?_;intro w b1 hx hp;refine az ?_;refine aI hp ?_
 refine bQ hp Tryz.func82 (gY x _) ?_;intro w hx hp
 apply ae<;>intro h0
 ·refine aN ?_;refine aq ?_
  have gM:¬aj x.n:=fun h=>by have:=kX.2 h.size;exact this h0
  exact⟨by rw[cY gM],hp.x⟩
 ·have iA:=kX.1 h0
  have jw:=hk.1 iA
  have xM:cM x.n=ag x.n:=if_pos iA
  rw[xM]
  refine aM ?_
  refine aR [1,3,4] (fun(i:Nat)=>[(1,.pointer (some ⟨b1,0,none⟩)),(3,.int .i64 (ag x.n)),(4,.int .i64 (i:Int))])
   (fun i w'=>i<=x.au.length/\(∀j,j<i->iF (x.au.getD j default).s)/\Hp w0 w' [rB b1 33 x.cs]) (fun i=>x.au.length-i) 0 rfl ⟨by omega,fun j hj=>by omega,hp⟩ ?_
  rintro i w1 ⟨hi,dL,hp⟩ IH C
  refine bL ?_;refine aI hp ?_
  apply ae<;>intro bD
  ·have aF:i<x.au.length:=by omega
   have E4:iF (x.au.getD i default).s↔((x.au.getD i default).kind=0/\(0<=(x.au.getD i default).init/\(x.au.getD i default).init<=1)/\(x.au.getD i default).ins.length=1)\/((x.au.getD i default).kind=1/\(0<=(x.au.getD i default).init/\(x.au.getD i default).init<=31)/\(x.au.getD i default).ins.length=4):= .rfl
   refine aN ?_;(repeat(refine ah ?_;first|refine aI hp ?_|refine bb hp ?_))
   refine bP hp ?_;intro w b5 hx hp;refine az ?_;(repeat(first|(refine ah ?_;refine aI hp ?_)|(refine aH ?_;refine aW hp ?_;intro w hp;refine az ?_)))
   (first|apply fx|apply cf)<;>intro h1 e<;>rw[e]<;>clear e;all_goals((repeat(first|(refine aG ?_;first|refine aO ?_|refine ba ?_)|(refine ah ?_;refine aI hp ?_))))
   ·by_cases h2:0<=(x.au.getD i default).init/\(x.au.getD i default).init<=1
    ·refine bQ hp Tryz.func79 ((cE _ 0 1 _).yes h2) ?_;intro w hx hp;(repeat(first|(refine aG ?_;refine aO ?_)|(refine ah ?_;refine aI hp ?_)))
     (first|apply fx|apply cf)<;>intro h3 e<;>rw[e]<;>clear e;all_goals((repeat(first|(refine aG ?_;first|refine aO ?_|refine ba ?_)|(refine ah ?_;refine aI hp ?_))))
     ·refine aM ?_
      refine IH (i+1) _ _ _ (by omega) rfl ⟨by omega,fun j hj=> ?_,hp.drop⟩
      by_cases dC:j<i
      ·exact dL j dC
      ·obtain rfl:j=i:=by omega
       exact E4.2 (by omega)
     ·(first|apply fx|apply cf)<;>intro h4 e<;>rw[e]<;>clear e;all_goals((repeat(first|(refine aG ?_;first|refine aO ?_|refine ba ?_)|(refine ah ?_;refine aI hp ?_))))
      ·exact absurd h1 (by omega)
      ·refine aN ?_;refine aq ?_
       have gM:¬aj x.n:=fun h=>by have:=h.au i (by rw[x.fE];exact aF);rw[x.tF] at this;replace this:=E4.1 this;omega
       exact⟨by rw[cY gM],hp.x⟩
    ·refine bQ hp Tryz.func79 ((cE _ 0 1 _).no h2) ?_;intro w hx hp;(repeat(first|(refine aG ?_;first|refine aO ?_|refine ba ?_)|(refine ah ?_;refine aI hp ?_)))
     (first|apply fx|apply cf)<;>intro h4 e<;>rw[e]<;>clear e;all_goals((repeat(first|(refine aG ?_;first|refine aO ?_|refine ba ?_)|(refine ah ?_;refine aI hp ?_))))
     ·exact absurd h1 (by omega)
     ·refine aN ?_;refine aq ?_
      have gM:¬aj x.n:=fun h=>by have:=h.au i (by rw[x.fE];exact aF);rw[x.tF] at this;replace this:=E4.1 this;omega
      exact⟨by rw[cY gM],hp.x⟩
   ·(first|apply fx|apply cf)<;>intro h4 e<;>rw[e]<;>clear e;all_goals((repeat(first|(refine aG ?_;first|refine aO ?_|refine ba ?_)|(refine ah ?_;refine aI hp ?_))))
    ·by_cases h2:0<=(x.au.getD i default).init/\(x.au.getD i default).init<=31
     ·refine bQ hp Tryz.func79 ((cE _ 0 31 _).yes h2) ?_;intro w hx hp;(repeat(first|(refine aG ?_;refine aO ?_)|(refine ah ?_;refine aI hp ?_)))
      refine qo (fun h5=> ?_) (fun h5=> ?_)
      ·refine aN ?_;refine aq ?_
       have gM:¬aj x.n:=fun h=>by have:=h.au i (by rw[x.fE];exact aF);rw[x.tF] at this;replace this:=E4.1 this;omega
       exact⟨by rw[cY gM],hp.x⟩
      ·refine aM ?_
       refine IH (i+1) _ _ _ (by omega) rfl ⟨by omega,fun j hj=> ?_,hp.drop⟩
       by_cases dC:j<i
       ·exact dL j dC
       ·obtain rfl:j=i:=by omega
        exact E4.2 (by omega)
     ·refine bQ hp Tryz.func79 ((cE _ 0 31 _).no h2) ?_;intro w hx hp;(repeat(refine aG ?_;first|refine aO ?_|refine ba ?_))
      refine aN ?_;refine aq ?_
      have gM:¬aj x.n:=fun h=>by have:=h.au i (by rw[x.fE];exact aF);rw[x.tF] at this;replace this:=E4.1 this;omega
      exact⟨by rw[cY gM],hp.x⟩
    ·refine aN ?_;refine aq ?_
     have gM:¬aj x.n:=fun h=>by have:=h.au i (by rw[x.fE];exact aF);rw[x.tF] at this;replace this:=E4.1 this;omega
     exact⟨by rw[cY gM],hp.x⟩
  ·refine aM ?_;refine aI hp ?_
   obtain rfl:i=x.au.length:=by omega
   have Lx:=nQ iA (Nat.le_refl _) dL
   have hbL:(bc x.n).length<=100:=by rw[bc,x.fE];exact Lx _ (Nat.le_refl _)
   have hRR:=Al hW _ (Nat.le_refl _)
   refine cy Tryz.func136 (vM x _ hp.dR (by omega) (fun i hi=>by have:=Lx i hi;omega)) ?_;rintro _ w ⟨a2,c2,rfl,hq⟩;have hx:=hq.x;have hp:=hp.bJ hq;refine az ?_
   refine aR [1,3,6,7] (fun(i:Nat)=>[(1,.pointer (some ⟨b1,0,none⟩)),(3,.int .i64 (ag x.n)),(6,.slice a2 (bc x.n).length c2),(7,.int .i64 (i:Int))])
    (fun i w'=>i<=(bc x.n).length/\(∀j,j<i->aD ((bc x.n).getD j default) (ag x.n))/\Hp w0 w' [rO 3 1 eI a2 c2 (bc x.n),rB b1 33 x.cs]) (fun i=>(bc x.n).length-i) 0 rfl ⟨by omega,fun j hj=>by omega,hp⟩ ?_
   rintro i w1 ⟨hi,xN,hp⟩ IH C
   refine bL ?_
   apply ae<;>intro bD
   ·have aF:i<(bc x.n).length:=by omega
    refine aN ?_;refine bb hp ?_
    by_cases aS:aD ((bc x.n).getD i default) (ag x.n)
    ·refine bQ hp Tryz.func81 ((eV _ _ _ (hRR i aF)).yes aS) ?_;intro w hx hp
     refine aM ?_
     refine IH (i+1) _ _ _ (by omega) rfl ⟨by omega,fun j hj=> ?_,hp⟩
     by_cases dC:j<i
     ·exact xN j dC
     ·obtain rfl:j=i:=by omega
      exact aS
    ·refine bQ hp Tryz.func81 ((eV _ _ _ (hRR i aF)).no aS) ?_;intro w hx hp
     refine aN ?_;refine aq ?_
     have gM:¬aj x.n:=fun h=>aS (h.roots i aF)
     exact⟨by rw[cY gM],hp.x⟩
   ·refine aM ?_
    obtain rfl:i=(bc x.n).length:=by omega
    refine aR [1,8] (fun(i:Nat)=>[(1,.pointer (some ⟨b1,0,none⟩)),(8,.int .i64 (i:Int))])
     (fun i w'=>i<=x.af.length/\(∀j,j<i->aD (x.af.getD j default).1 (aB x.n+j)/\aD (x.af.getD j default).2 (aB x.n+j))/\Hp w0 w' [rB b1 33 x.cs]) (fun i=>x.af.length-i) 0 rfl ⟨by omega,fun j hj=>by omega,hp.drop⟩ ?_
    rintro i w1 ⟨hi,C5,hp⟩ IH C
    refine bL ?_;refine aI hp ?_
    apply ae<;>intro bD
    ·have aF:i<x.af.length:=by omega
     have Jz:=hW.af i aF
     refine aN ?_
     refine j7 hp ?_;intro w hx hp;have hs:=hp;(repeat(refine ah ?_;first|refine dN ?_|refine lH rfl (by omega) rfl rfl rfl ?_))
     refine oW Tryz.func137 (jG x _ (qx iA)) ?_;rintro _ w ⟨rfl,hx⟩;have hp:=hp.ext hx;have hs:=hs.ext hx;refine⟨fun _=>hs,?_⟩;refine fO ?_
     by_cases nR:aD (x.af.getD i default).1 (aB x.n+i)
     ·refine oW Tryz.func81 ((eV _ _ _ Jz.1).yes nR) ?_;rintro _ w ⟨rfl,hx⟩;have hp:=hp.ext hx;have hs:=hs.ext hx;refine⟨fun _=>hs,?_⟩;refine fO ?_;(repeat(first|(refine aG ?_;refine cx rfl rfl rfl ?_)|(refine ah ?_;first|refine dN ?_|refine lH rfl (by omega) rfl rfl rfl ?_)))
      refine oW Tryz.func137 (jG x _ (qx iA)) ?_;rintro _ w ⟨rfl,hx⟩;have hp:=hp.ext hx;have hs:=hs.ext hx;refine⟨fun _=>hs,?_⟩;refine fO ?_;(repeat(refine cx rfl rfl rfl ?_))
      by_cases aS:aD (x.af.getD i default).2 (aB x.n+i)
      ·refine oW Tryz.func81 ((eV _ _ _ Jz.2).yes aS) ?_;rintro _ w ⟨rfl,hx⟩;have hp:=hp.ext hx;have hs:=hs.ext hx;refine⟨fun _=>hs,?_⟩;refine fO ?_;refine cx rfl rfl rfl ?_
       refine aM ?_
       refine IH (i+1) _ _ _ (by omega) rfl ⟨by omega,fun j hj=> ?_,hp⟩
       by_cases dC:j<i
       ·exact C5 j dC
       ·obtain rfl:j=i:=by omega
        exact⟨nR,aS⟩
      ·refine oW Tryz.func81 ((eV _ _ _ Jz.2).no aS) ?_;rintro _ w ⟨rfl,hx⟩;have hp:=hp.ext hx;have hs:=hs.ext hx;refine⟨fun _=>hs,?_⟩;refine fO ?_;refine cx rfl rfl rfl ?_
       refine aN ?_;refine aq ?_
       have gM:¬aj x.n:=fun h=>aS (h.af i aF).2
       exact⟨by rw[cY gM],hp.x⟩
     ·refine oW Tryz.func81 ((eV _ _ _ Jz.1).no nR) ?_;rintro _ w ⟨rfl,hx⟩;have hp:=hp.ext hx;have hs:=hs.ext hx;refine⟨fun _=>hs,?_⟩;refine fO ?_;(repeat(refine dB rfl rfl rfl ?_))
      refine aN ?_;refine aq ?_
      have gM:¬aj x.n:=fun h=>nR (h.af i aF).1
      exact⟨by rw[cY gM],hp.x⟩
    ·refine aM ?_;refine aq ?_
     obtain rfl:i=x.af.length:=by omega
     have HT:aj x.n:=⟨iA,fun j hj=>by rw[x.tF];exact dL j (by rw[x.fE] at hj;exact hj),xN,C5⟩
     exact⟨by rw[fj HT],hp.x⟩
end Go.Proofs
