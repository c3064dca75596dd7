/- The contracts of the functions that count a net's nodes and check it; each under its stated conditions. -/
import Derived.Test.YtiepmliokblkjaaGreatBrf
import Derived.Test.YtiepmliokblkjaaGreatNet
set_option linter.all false
namespace Go.Proofs
open Go.Xw
set_option maxRecDepth 100000
set_option maxHeartbeats 1000000
attribute [local irreducible] ax aE
theorem jT (x:bf)(w0:World)(hb:xJ x):bN Tryz.prog 128 [x.v] w0 (fun v w'=>v= .int .i64 (ag x.n)/\Ext w0 w'):=by
 obtain⟨h1,h2,h3⟩:=hb
 rw[iS]
 refine eu Tryz.Qt ?_;intro C hp;skip;refine bP hp ?_;intro w b1 hx hp;refine az ?_;(repeat(first|(refine ah ?_;refine aH hp ?_)|refine aq ?_))
 exact⟨rfl,hp.x⟩
theorem iE (x:bf)(w0:World)(hb:xJ x):bN Tryz.prog 70 [x.v] w0 (fun v w'=>v= .int .i64 (aB x.n)/\Ext w0 w'):=by
 obtain⟨h1,h2,h3⟩:=hb
 rw[eD]
 refine eu Tryz.Vi ?_;intro C hp;skip;refine bP hp ?_;intro w b1 hx hp;refine az ?_;refine aH hp ?_;refine aH hp ?_;refine aq ?_
 exact⟨rfl,hp.x⟩
theorem E0 (x:bf)(w0:World)(hb:xJ x):bN Tryz.prog 164 [x.v] w0 (fun v w'=>v= .int .i64 (1+x.aT)/\Ext w0 w'):=by
 obtain⟨h1,h2,h3⟩:=hb
 refine eu Tryz.QX ?_;intro C hp;skip;refine bP hp ?_;intro w b1 hx hp;refine az ?_;refine aH hp ?_;refine aq ?_
 exact⟨rfl,hp.x⟩
theorem jG (x:bf)(w0:World)(hb:xJ x):bN Tryz.prog 137 [x.v] w0 (fun v w'=>v= .int .i64 (aB x.n)/\Ext w0 w'):=by
 obtain⟨h1,h2,h3⟩:=hb
 rw[eD]
 refine eu Tryz.Qz ?_;intro C hp;skip;refine bP hp ?_;intro w b1 hx hp;refine az ?_;refine aH hp ?_;refine aH hp ?_;refine aq ?_
 exact⟨rfl,hp.x⟩
theorem wg (x:bf)(w0:World):bN Tryz.prog 125 [x.v] w0 (fun v w'=>v= .int .i64 (cM x.n)/\Ext w0 w'):=by
 have hs:=jF x
 refine eu Tryz.Qp ?_;intro C hp;skip;refine bP hp ?_;intro w b1 hx hp;refine az ?_;refine aH hp ?_
 by_cases h1:0<=x.aT/\x.aT<=20
 ·refine bQ hp Tryz.func124 ((bB x.aT 0 20 _).yes h1) ?_;intro w hx hp;(repeat(first|(refine aG ?_;refine aO ?_)|(refine ah ?_;refine aH hp ?_)))
  (first|apply fx|apply cf)<;>intro h2 e<;>rw[e]<;>clear e;all_goals((repeat(first|(refine aG ?_;first|refine aO ?_|refine ba ?_)|(refine ah ?_;refine aH hp ?_))))
  ·refine aN ?_;refine aq ?_
   exact⟨by rw[cM,if_neg (fun hh=>by have:=hs.1 hh;omega)],hp.x⟩
  ·(first|apply fx|apply cf)<;>intro h3 e<;>rw[e]<;>clear e;all_goals((repeat(first|(refine aG ?_;first|refine aO ?_|refine ba ?_)|(refine ah ?_;refine aH hp ?_))))
   ·refine aN ?_;refine aq ?_
    exact⟨by rw[cM,if_neg (fun hh=>by have:=hs.1 hh;omega)],hp.x⟩
   ·apply ae<;>intro h4
    ·refine aN ?_;refine aq ?_
     exact⟨by rw[cM,if_neg (fun hh=>by have:=hs.1 hh;omega)],hp.x⟩
    ·have aS:fS x.n:=hs.2 ⟨h1,by omega,by omega,by omega⟩
     refine aM ?_;refine aH hp ?_
     refine bQ hp Tryz.func128 (jT x _ (qw aS)) ?_;intro w hx hp;refine aq ?_
     exact⟨by rw[cM,if_pos aS],hp.x⟩
 ·refine bQ hp Tryz.func124 ((bB x.aT 0 20 _).no h1) ?_;intro w hx hp;(repeat(refine ba ?_))
  refine aN ?_;refine aq ?_
  exact⟨by rw[cM,if_neg (fun hh=>by have:=hs.1 hh;omega)],hp.x⟩
theorem gY (x:bf)(w0:World):bN Tryz.prog 82 [x.v] w0 (fun v w'=>v= .int .i64 (cM x.n)/\Ext w0 w'):=by
 have hs:=jF x
 have vu:=iS x
 refine eu Tryz.Vr ?_;intro C hp;skip;refine bP hp ?_;intro w b1 hx hp;refine az ?_;refine aH hp ?_
 by_cases h1:0<=x.aT/\x.aT<=20
 ·refine bQ hp Tryz.func79 ((cD x.aT 0 20 _).yes h1) ?_;intro w hx hp;(repeat(first|(refine aG ?_;refine aO ?_)|(refine ah ?_;refine aH hp ?_)))
  (first|apply fx|apply cf)<;>intro h2 e<;>rw[e]<;>clear e;all_goals((repeat(first|(refine aG ?_;first|refine aO ?_|refine ba ?_)|(refine ah ?_;refine aH hp ?_))))
  ·refine aN ?_;refine aq ?_
   exact⟨by rw[cM,if_neg (fun hh=>by have:=hs.1 hh;omega)],hp.x⟩
  ·(first|apply fx|apply cf)<;>intro h3 e<;>rw[e]<;>clear e;all_goals((repeat(first|(refine aG ?_;first|refine aO ?_|refine ba ?_)|(refine ah ?_;refine aH hp ?_))))
   ·refine aN ?_;refine aq ?_
    exact⟨by rw[cM,if_neg (fun hh=>by have:=hs.1 hh;omega)],hp.x⟩
   ·apply ae<;>intro h4
    ·refine aN ?_;refine aq ?_
     exact⟨by rw[cM,if_neg (fun hh=>by have:=hs.1 hh;omega)],hp.x⟩
    ·have aS:fS x.n:=hs.2 ⟨h1,by omega,by omega,by omega⟩
     refine aM ?_;(repeat(first|(refine ah ?_;refine aH hp ?_)|refine aq ?_))
     exact⟨by rw[cM,if_pos aS,vu],hp.x⟩
 ·refine bQ hp Tryz.func79 ((cD x.aT 0 20 _).no h1) ?_;intro w hx hp;(repeat(refine ba ?_))
  refine aN ?_;refine aq ?_
  exact⟨by rw[cM,if_neg (fun hh=>by have:=hs.1 hh;omega)],hp.x⟩
theorem E1 (a:Option Addr)(c:Nat)(xs:List Int)(w0:World)(ha:Rd w0 a 1 eI xs)(hl:xs.length<=100000000):
  bN Tryz.prog 163 [.slice a xs.length c] w0 (fun v w=>∃b c,v= .slice b xs.length c/\Hp w0 w [rO 3 1 eI b c xs]):=by
 refine eu Tryz.QW ?_;intro C hp;refine gG hp ?_;intro w _ hx hp;refine az ?_
 refine gT hp ?_;intro b c w hp bZ;refine az ?_;refine aq ?_
 exact⟨b,c,rfl,hp⟩
theorem vJ (x:bf)(w0:World)(hX:fG w0 x)(hn:x.au.length<=1000000000)(hl:∀i,i<=x.au.length->(bR x.n i).length<=100000000):
  bN Tryz.prog 127 [x.v] w0 (fun v w=>∃b c,v= .slice b (bc x.n).length c/\Hp w0 w [rO 3 1 eI b c (bc x.n)]):=by
 have h0:=hl 0 (by omega)
 simp only[bR] at h0
 have h0:x.outs.length<=100000000:=h0
 refine eu Tryz.Qs ?_;intro C hp;skip;refine bP hp ?_;intro w b1 hx hp;refine az ?_;refine aH hp ?_
 refine cx Tryz.func163 (E1 _ _ x.outs _ hp.rd (by omega)) ?_;rintro _ w ⟨a3,c3,rfl,hq⟩;have hx:=hq.x;have hp:=hp.bJ hq;refine az ?_;refine aH hp ?_
 refine eg [3,10,11,12] (fun(i:Nat) (a:Option Addr) (c:Nat)=>[(3,.slice a (bR x.n i).length c),(10,.slice x.sa x.au.length x.sc),(11,.int .i64 x.au.length),(12,.int .i64 (i:Int))])
  (fun i a c w'=>i<=x.au.length/\Hp w0 w' [rO 3 1 eI a c (bR x.n i)]) (fun i _ _=>x.au.length-i) 0 a3 c3 rfl ⟨by omega,hp.sub (by simp;exact .inl rfl)⟩ ?_
 rintro i a c w1 ⟨hi,hp⟩ IH C
 refine bL ?_
 apply ae<;>intro bD
 ·have aF:i<x.au.length:=by omega
  have vK:=hl (i+1) (by omega)
  simp only[bR,List.length_append,x.rQ] at vK
  have je:=hX.au.at_ aF
  refine aN ?_;refine bb hp ?_
  refine bP hp ?_;intro w b5 hx hp;refine az ?_;(repeat(first|(refine ah ?_;refine aH hp ?_)|(refine aI ?_;refine aW hp ?_;intro w hp;refine az ?_)))
  refine gT hp ?_;intro a' c' w hp bZ;refine az ?_
  refine IH (i+1) a' c' _ _ _ (by omega) (by rw[show bR x.n (i+1)=bR x.n i++(x.au.getD i default).ins by rw[bR,x.rQ]];rfl) ⟨by omega,?_⟩
  rw[show bR x.n (i+1)=bR x.n i++(x.au.getD i default).ins by rw[bR,x.rQ]]
  exact hp.drop
 ·refine aM ?_;refine aq ?_
  obtain rfl:i=x.au.length:=by omega
  exact⟨a,c,by rw[bc,x.fE],by rw[bc,x.fE];exact hp⟩
theorem vL (x:bf)(w0:World)(hX:fG w0 x)(hn:x.au.length<=1000000000)(hl:∀i,i<=x.au.length->(bR x.n i).length<=100000000):
  bN Tryz.prog 136 [x.v] w0 (fun v w=>∃b c,v= .slice b (bc x.n).length c/\Hp w0 w [rO 3 1 eI b c (bc x.n)]):=by
 have h0:=hl 0 (by omega)
 simp only[bR] at h0
 have h0:x.outs.length<=100000000:=h0
 refine eu Tryz.Qy ?_;intro C hp;skip;refine bP hp ?_;intro w b1 hx hp;refine az ?_;(repeat(first|(refine ah ?_;refine aH hp ?_)|(refine bK ?_;refine gG hp ?_;intro w _ hx hp;refine az ?_)))
 refine gT hp ?_;intro a3 c3 w hp bZ;refine az ?_
 refine eg [1,3,4] (fun(i:Nat) (a:Option Addr) (c:Nat)=>[(1,.pointer (some ⟨b1,0,none⟩)),(3,.slice a (bR x.n i).length c),(4,.int .i64 (i:Int))])
  (fun i a c w'=>i<=x.au.length/\Hp w0 w' [rO 3 1 eI a c (bR x.n i),rB b1 33 x.cs]) (fun i _ _=>x.au.length-i) 0 a3 c3 rfl ⟨by omega,hp⟩ ?_
 rintro i a c w1 ⟨hi,hp⟩ IH C
 refine bL ?_;refine aH hp ?_
 apply ae<;>intro bD
 ·have aF:i<x.au.length:=by omega
  have vK:=hl (i+1) (by omega)
  simp only[bR,List.length_append,x.rQ] at vK
  have je:=hX.au.at_ aF
  refine aN ?_;(repeat(refine ah ?_;first|refine aH hp ?_|refine dg hp ?_))
  refine gT hp ?_;intro a' c' w hp bZ;refine az ?_
  refine IH (i+1) a' c' _ _ _ (by omega) (by rw[show bR x.n (i+1)=bR x.n i++(x.au.getD i default).ins by rw[bR,x.rQ]];rfl) ⟨by omega,?_⟩
  rw[show bR x.n (i+1)=bR x.n i++(x.au.getD i default).ins by rw[bR,x.rQ]]
  exact hp
 ·refine aM ?_;refine aq ?_
  obtain rfl:i=x.au.length:=by omega
  exact⟨a,c,by rw[bc,x.fE],by rw[bc,x.fE];exact hp.sub (by simp)⟩
theorem Gn (s:dM)(w0:World)(hl:s.ins.length<=1000000000):bN Tryz.prog 126 [.agg ⟨kf s⟩] w0 (fun v w'=>v= .bool (decide (iD s.s))/\Ext w0 w'):=by
 have key:iD s.s↔(s.kind=0/\(0<=s.init/\s.init<=1)/\s.ins.length=1)\/(s.kind=1/\(0<=s.init/\s.init<=31)/\s.ins.length=4):= .rfl
 refine eu Tryz.Qq ?_;intro C hp;skip;refine bP hp ?_;intro w b1 hx hp;refine az ?_;refine aH hp ?_
 apply ae<;>intro h
 ·refine aN ?_;refine aH hp ?_
  by_cases h1:0<=s.init/\s.init<=1
  ·refine bQ hp Tryz.func124 ((bB _ 0 1 _).yes h1) ?_;intro w hx hp;(repeat(first|(refine aG ?_;refine aO ?_)|(refine ah ?_;refine aH hp ?_)|refine aq ?_))
   exact⟨by simp only[key,h,h1];simp;omega,hp.x⟩
  ·refine bQ hp Tryz.func124 ((bB _ 0 1 _).no h1) ?_;intro w hx hp;(repeat(first|(refine aG ?_;refine ba ?_)|refine aq ?_))
   exact⟨by simp only[key,h,h1];simp,hp.x⟩
 ·refine aM ?_
  apply ae<;>intro h2
  ·refine aN ?_;refine aH hp ?_
   by_cases h1:0<=s.init/\s.init<=31
   ·refine bQ hp Tryz.func124 ((bB _ 0 31 _).yes h1) ?_;intro w hx hp;(repeat(first|(refine aG ?_;refine aO ?_)|(refine ah ?_;refine aH hp ?_)|refine aq ?_))
    exact⟨by simp only[key,h2,h1];simp;omega,hp.x⟩
   ·refine bQ hp Tryz.func124 ((bB _ 0 31 _).no h1) ?_;intro w hx hp;(repeat(first|(refine aG ?_;refine ba ?_)|refine aq ?_))
    exact⟨by simp only[key,h2,h1];simp,hp.x⟩
  ·refine aM ?_;refine aq ?_
   exact⟨by simp only[key,h,h2];simp,hp.x⟩
theorem ll (x:bf)(w0:World)(hX:fG w0 x)(hS:kL x.n):bN Tryz.prog 68 [x.v] w0 (fun v w'=>v= .bool (nP x.n)/\Ext w0 w'):=by
 have hk:=jF x
 have vu:=iS x
 have IF:=eD x
 refine eu Tryz.Vg ?_;intro C hp;skip;refine bP hp ?_;intro w b1 hx hp;refine az ?_;refine aH hp ?_
 refine bQ hp Tryz.func125 (wg x _) ?_;intro w hx hp
 apply ae<;>intro h0
 ·refine aN ?_;refine aq ?_
  have gM:¬aj x.n:=fun h=>by have:=kY.2 h.size;exact this h0
  exact⟨by rw[cY gM],hp.x⟩
 ·have hs:=kY.1 h0
  have jw:=hk.1 hs
  have xK:cM x.n=ag x.n:=if_pos hs
  rw[xK]
  have Oj:∀j,j<x.au.length->(x.au.getD j default).ins.length<=1000000000:=fun j hj=>by
   have:=hS.ins j (by rw[x.fE];exact hj)
   rw[x.rQ] at this;omega
  refine aM ?_;refine aH hp ?_
  refine aR [1,3,16,17,18] (fun(i:Nat)=>[(1,.pointer (some ⟨b1,0,none⟩)),(3,.int .i64 (ag x.n)),(16,.slice x.sa x.au.length x.sc),(17,.int .i64 x.au.length),(18,.int .i64 (i:Int))])
   (fun i w'=>i<=x.au.length/\(∀j,j<i->iD (x.au.getD j default).s)/\Hp w0 w' [rB b1 33 x.cs]) (fun i=>x.au.length-i) 0 rfl ⟨by omega,fun j hj=>by omega,hp⟩ ?_
  rintro i w1 ⟨hi,dK,hp⟩ IH C
  refine bL ?_
  apply ae<;>intro bD
  ·have aF:i<x.au.length:=by omega
   refine aN ?_;refine bb hp ?_
   refine bP hp ?_;intro w b5 hx hp;refine az ?_;(repeat(first|(refine ah ?_;refine aH hp ?_)|(refine aI ?_;refine aW hp ?_;intro w hp;refine az ?_)))
   by_cases aS:iD (x.au.getD i default).s
   ·refine bQ hp Tryz.func126 ((Gn (x.au.getD i default) _ (Oj i aF)).yes aS) ?_;intro w hx hp
    refine aM ?_
    refine IH (i+1) _ _ _ (by omega) rfl ⟨by omega,fun j hj=> ?_,hp.drop⟩
    by_cases dA:j<i
    ·exact dK j dA
    ·obtain rfl:j=i:=by omega
     exact aS
   ·refine bQ hp Tryz.func126 ((Gn (x.au.getD i default) _ (Oj i aF)).no aS) ?_;intro w hx hp
    refine aN ?_;refine aq ?_
    have gM:¬aj x.n:=fun h=>aS (by have:=h.au i (by rw[x.fE];exact aF);rwa[x.tG] at this)
    exact⟨by rw[cY gM],hp.x⟩
  ·refine aM ?_;refine aH hp ?_
   obtain rfl:i=x.au.length:=by omega
   have Lw:=nQ hs (Nat.le_refl _) dK
   have hbL:(bc x.n).length<=100:=by rw[bc,x.fE];exact Lw _ (Nat.le_refl _)
   refine cx Tryz.func127 (vJ x _ hp.dR (by omega) (fun i hi=>by have:=Lw i hi;omega)) ?_;rintro _ w ⟨a2,c2,rfl,hq⟩;have hx:=hq.x;have hp:=hp.bJ hq;refine az ?_
   refine aR [1,3,27,28,29] (fun(i:Nat)=>[(1,.pointer (some ⟨b1,0,none⟩)),(3,.int .i64 (ag x.n)),(27,.slice a2 (bc x.n).length c2),(28,.int .i64 (bc x.n).length),(29,.int .i64 (i:Int))])
    (fun i w'=>i<=(bc x.n).length/\(∀j,j<i->aD ((bc x.n).getD j default) (ag x.n))/\Hp w0 w' [rO 3 1 eI a2 c2 (bc x.n),rB b1 33 x.cs]) (fun i=>(bc x.n).length-i) 0 rfl ⟨by omega,fun j hj=>by omega,hp⟩ ?_
   rintro i w1 ⟨hi,xL,hp⟩ IH C
   refine bL ?_
   apply ae<;>intro bD
   ·have aF:i<(bc x.n).length:=by omega
    refine aN ?_;refine bb hp ?_
    by_cases aS:aD ((bc x.n).getD i default) (ag x.n)
    ·have E2:=aS
     unfold aD at E2
     refine bQ hp Tryz.func124 ((bB ((bc x.n).getD i default) 0 (2*ag x.n-1) _).yes (by omega)) ?_;intro w hx hp
     refine aM ?_
     refine IH (i+1) _ _ _ (by omega) rfl ⟨by omega,fun j hj=> ?_,hp⟩
     by_cases dA:j<i
     ·exact xL j dA
     ·obtain rfl:j=i:=by omega
      exact aS
    ·have E2:=aS
     unfold aD at E2
     refine bQ hp Tryz.func124 ((bB ((bc x.n).getD i default) 0 (2*ag x.n-1) _).no (by omega)) ?_;intro w hx hp
     refine aN ?_;refine aq ?_
     have gM:¬aj x.n:=fun h=>aS (h.roots i aF)
     exact⟨by rw[cY gM],hp.x⟩
   ·refine aM ?_;refine aH hp ?_
    obtain rfl:i=(bc x.n).length:=by omega
    refine aR [1,41,42,43] (fun(i:Nat)=>[(1,.pointer (some ⟨b1,0,none⟩)),(41,.slice x.aa x.af.length x.ac),(42,.int .i64 x.af.length),(43,.int .i64 (i:Int))])
     (fun i w'=>i<=x.af.length/\(∀j,j<i->aD (x.af.getD j default).1 (aB x.n+j)/\aD (x.af.getD j default).2 (aB x.n+j))/\Hp w0 w' [rB b1 33 x.cs]) (fun i=>x.af.length-i) 0 rfl ⟨by omega,fun j hj=>by omega,hp.drop⟩ ?_
    rintro i w1 ⟨hi,C3,hp⟩ IH C
    refine bL ?_
    apply ae<;>intro bD
    ·have aF:i<x.af.length:=by omega
     refine aN ?_;refine bb hp ?_
     refine bP hp ?_;intro w b9 hx hp;refine az ?_;(repeat(first|(refine ah ?_;refine aH hp ?_)|(refine aI ?_;refine aW hp ?_;intro w hp;refine az ?_)))
     refine bQ hp Tryz.func70 (iE x _ (qw hs)) ?_;intro w hx hp;refine aH hp ?_
     by_cases nR:aD (x.af.getD i default).1 (aB x.n+i)
     ·have Jx:=nR
      unfold aD at Jx
      refine bQ hp Tryz.func124 ((bB (x.af.getD i default).1 0 (2*(aB x.n+i)-1) _).yes (by omega)) ?_;intro w hx hp;(repeat(first|(refine aG ?_;refine aO ?_)|(refine ah ?_;refine aH hp ?_)))
      by_cases aS:aD (x.af.getD i default).2 (aB x.n+i)
      ·have E2:=aS
       unfold aD at E2
       refine bQ hp Tryz.func124 ((bB (x.af.getD i default).2 0 (2*(aB x.n+i)-1) _).yes (by omega)) ?_;intro w hx hp;refine aO ?_
       refine aM ?_
       refine IH (i+1) _ _ _ (by omega) rfl ⟨by omega,fun j hj=> ?_,hp.drop⟩
       by_cases dA:j<i
       ·exact C3 j dA
       ·obtain rfl:j=i:=by omega
        exact⟨nR,aS⟩
      ·have E2:=aS
       unfold aD at E2
       refine bQ hp Tryz.func124 ((bB (x.af.getD i default).2 0 (2*(aB x.n+i)-1) _).no (by omega)) ?_;intro w hx hp;refine aO ?_
       refine aN ?_;refine aq ?_
       have gM:¬aj x.n:=fun h=>aS (h.af i aF).2
       exact⟨by rw[cY gM],hp.x⟩
     ·have Jx:=nR
      unfold aD at Jx
      refine bQ hp Tryz.func124 ((bB (x.af.getD i default).1 0 (2*(aB x.n+i)-1) _).no (by omega)) ?_;intro w hx hp;(repeat(refine ba ?_))
      refine aN ?_;refine aq ?_
      have gM:¬aj x.n:=fun h=>nR (h.af i aF).1
      exact⟨by rw[cY gM],hp.x⟩
    ·refine aM ?_;refine aq ?_
     obtain rfl:i=x.af.length:=by omega
     have HS:aj x.n:=⟨hs,fun j hj=>by rw[x.tG];exact dK j (by rw[x.fE] at hj;exact hj),xL,C3⟩
     exact⟨by rw[fi HS],hp.x⟩
theorem Bq (x:bf)(w0:World)(hX:fG w0 x)(aS:aj x.n):
  bN Tryz.prog 127 [x.v] w0 (fun v w=>∃b c,v= .slice b (bc x.n).length c/\Hp w0 w [rO 3 1 eI b c (bc x.n)]):=
 vJ x w0 hX (by have:=aS.jS;omega) fun i hi=>by have:=aS.bound i hi;omega
theorem Br (x:bf)(w0:World)(hX:fG w0 x)(aS:aj x.n):
  bN Tryz.prog 136 [x.v] w0 (fun v w=>∃b c,v= .slice b (bc x.n).length c/\Hp w0 w [rO 3 1 eI b c (bc x.n)]):=
 vL x w0 hX (by have:=aS.jS;omega) fun i hi=>by have:=aS.bound i hi;omega
theorem eV (x k:Int)(w0:World)(hx:da x):bN Tryz.prog 81 [.int .i64 x,.int .i64 k] w0 (fun v w'=>v= .bool (decide (aD x k))/\Ext w0 w'):=by
 unfold da at hx
 refine eu Tryz.Vq ?_;intro C hp
 (first|apply fx|apply cf)<;>intro h e<;>rw[e]<;>clear e;all_goals((repeat(first|(refine aG ?_;first|refine aO ?_|refine ba ?_)|refine aq ?_)))
 ·exact⟨by simp[aD,h],hp.x⟩
 ·exact⟨by simp[aD,h],hp.x⟩
theorem Ah {n:ao}(hW:nq n):∀m,m<=n.au.length->∀i,i<(bR n m).length->da ((bR n m).getD i default)
 |0,_,i,hi=>hW.outs i hi
 |m+1,hm,i,hi=>by
  have ih:=Ah hW m (by omega)
  simp only[bR,List.length_append] at hi
  simp only[bR,List.getD_eq_getElem?_getD]
  rcases Nat.lt_or_ge i (bR n m).length with h|h
  ·rw[List.getElem?_append_left h]
   have:=ih i h
   rwa[List.getD_eq_getElem?_getD] at this
  ·rw[List.getElem?_append_right h]
   have:=hW.ins m (by omega) (i-(bR n m).length) (by omega)
   rwa[List.getD_eq_getElem?_getD] at this
theorem eZ (x:bf)(w0:World)(hX:fG w0 x)(hS:kL x.n)(hW:nq x.n):bN Tryz.prog 77 [x.v] w0 (fun v w'=>v= .bool (nP x.n)/\Ext w0 w'):=by
 have hk:=jF x
 have vu:=iS x
 have IF:=eD x
 refine eu Tryz.Vm ?_;intro C hp;skip;refine bP hp ?_;intro w b1 hx hp;refine az ?_;refine aH hp ?_
 refine bQ hp Tryz.func82 (gY x _) ?_;intro w hx hp
 apply ae<;>intro h0
 ·refine aN ?_;refine aq ?_
  have gM:¬aj x.n:=fun h=>by have:=kY.2 h.size;exact this h0
  exact⟨by rw[cY gM],hp.x⟩
 ·have iA:=kY.1 h0
  have jw:=hk.1 iA
  have xK:cM x.n=ag x.n:=if_pos iA
  rw[xK]
  refine aM ?_
  refine aR [1,3,4] (fun(i:Nat)=>[(1,.pointer (some ⟨b1,0,none⟩)),(3,.int .i64 (ag x.n)),(4,.int .i64 (i:Int))])
   (fun i w'=>i<=x.au.length/\(∀j,j<i->iD (x.au.getD j default).s)/\Hp w0 w' [rB b1 33 x.cs]) (fun i=>x.au.length-i) 0 rfl ⟨by omega,fun j hj=>by omega,hp⟩ ?_
  rintro i w1 ⟨hi,dK,hp⟩ IH C
  refine bL ?_;refine aH hp ?_
  apply ae<;>intro bD
  ·have aF:i<x.au.length:=by omega
   have E3:iD (x.au.getD i default).s↔((x.au.getD i default).kind=0/\(0<=(x.au.getD i default).init/\(x.au.getD i default).init<=1)/\(x.au.getD i default).ins.length=1)\/((x.au.getD i default).kind=1/\(0<=(x.au.getD i default).init/\(x.au.getD i default).init<=31)/\(x.au.getD i default).ins.length=4):= .rfl
   refine aN ?_;(repeat(refine ah ?_;first|refine aH hp ?_|refine bb hp ?_))
   refine bP hp ?_;intro w b5 hx hp;refine az ?_;(repeat(first|(refine ah ?_;refine aH hp ?_)|(refine aI ?_;refine aW hp ?_;intro w hp;refine az ?_)))
   (first|apply fx|apply cf)<;>intro h1 e<;>rw[e]<;>clear e;all_goals((repeat(first|(refine aG ?_;first|refine aO ?_|refine ba ?_)|(refine ah ?_;refine aH hp ?_))))
   ·by_cases h2:0<=(x.au.getD i default).init/\(x.au.getD i default).init<=1
    ·refine bQ hp Tryz.func79 ((cD _ 0 1 _).yes h2) ?_;intro w hx hp;(repeat(first|(refine aG ?_;refine aO ?_)|(refine ah ?_;refine aH hp ?_)))
     (first|apply fx|apply cf)<;>intro h3 e<;>rw[e]<;>clear e;all_goals((repeat(first|(refine aG ?_;first|refine aO ?_|refine ba ?_)|(refine ah ?_;refine aH hp ?_))))
     ·refine aM ?_
      refine IH (i+1) _ _ _ (by omega) rfl ⟨by omega,fun j hj=> ?_,hp.drop⟩
      by_cases dA:j<i
      ·exact dK j dA
      ·obtain rfl:j=i:=by omega
       exact E3.2 (by omega)
     ·(first|apply fx|apply cf)<;>intro h4 e<;>rw[e]<;>clear e;all_goals((repeat(first|(refine aG ?_;first|refine aO ?_|refine ba ?_)|(refine ah ?_;refine aH hp ?_))))
      ·exact absurd h1 (by omega)
      ·refine aN ?_;refine aq ?_
       have gM:¬aj x.n:=fun h=>by have:=h.au i (by rw[x.fE];exact aF);rw[x.tG] at this;replace this:=E3.1 this;omega
       exact⟨by rw[cY gM],hp.x⟩
    ·refine bQ hp Tryz.func79 ((cD _ 0 1 _).no h2) ?_;intro w hx hp;(repeat(first|(refine aG ?_;first|refine aO ?_|refine ba ?_)|(refine ah ?_;refine aH hp ?_)))
     (first|apply fx|apply cf)<;>intro h4 e<;>rw[e]<;>clear e;all_goals((repeat(first|(refine aG ?_;first|refine aO ?_|refine ba ?_)|(refine ah ?_;refine aH hp ?_))))
     ·exact absurd h1 (by omega)
     ·refine aN ?_;refine aq ?_
      have gM:¬aj x.n:=fun h=>by have:=h.au i (by rw[x.fE];exact aF);rw[x.tG] at this;replace this:=E3.1 this;omega
      exact⟨by rw[cY gM],hp.x⟩
   ·(first|apply fx|apply cf)<;>intro h4 e<;>rw[e]<;>clear e;all_goals((repeat(first|(refine aG ?_;first|refine aO ?_|refine ba ?_)|(refine ah ?_;refine aH hp ?_))))
    ·by_cases h2:0<=(x.au.getD i default).init/\(x.au.getD i default).init<=31
     ·refine bQ hp Tryz.func79 ((cD _ 0 31 _).yes h2) ?_;intro w hx hp;(repeat(first|(refine aG ?_;refine aO ?_)|(refine ah ?_;refine aH hp ?_)))
      refine qo (fun h5=> ?_) (fun h5=> ?_)
      ·refine aN ?_;refine aq ?_
       have gM:¬aj x.n:=fun h=>by have:=h.au i (by rw[x.fE];exact aF);rw[x.tG] at this;replace this:=E3.1 this;omega
       exact⟨by rw[cY gM],hp.x⟩
      ·refine aM ?_
       refine IH (i+1) _ _ _ (by omega) rfl ⟨by omega,fun j hj=> ?_,hp.drop⟩
       by_cases dA:j<i
       ·exact dK j dA
       ·obtain rfl:j=i:=by omega
        exact E3.2 (by omega)
     ·refine bQ hp Tryz.func79 ((cD _ 0 31 _).no h2) ?_;intro w hx hp;(repeat(refine aG ?_;first|refine aO ?_|refine ba ?_))
      refine aN ?_;refine aq ?_
      have gM:¬aj x.n:=fun h=>by have:=h.au i (by rw[x.fE];exact aF);rw[x.tG] at this;replace this:=E3.1 this;omega
      exact⟨by rw[cY gM],hp.x⟩
    ·refine aN ?_;refine aq ?_
     have gM:¬aj x.n:=fun h=>by have:=h.au i (by rw[x.fE];exact aF);rw[x.tG] at this;replace this:=E3.1 this;omega
     exact⟨by rw[cY gM],hp.x⟩
  ·refine aM ?_;refine aH hp ?_
   obtain rfl:i=x.au.length:=by omega
   have Lw:=nQ iA (Nat.le_refl _) dK
   have hbL:(bc x.n).length<=100:=by rw[bc,x.fE];exact Lw _ (Nat.le_refl _)
   have hRR:=Ah hW _ (Nat.le_refl _)
   refine cx Tryz.func136 (vL x _ hp.dR (by omega) (fun i hi=>by have:=Lw i hi;omega)) ?_;rintro _ w ⟨a2,c2,rfl,hq⟩;have hx:=hq.x;have hp:=hp.bJ hq;refine az ?_
   refine aR [1,3,6,7] (fun(i:Nat)=>[(1,.pointer (some ⟨b1,0,none⟩)),(3,.int .i64 (ag x.n)),(6,.slice a2 (bc x.n).length c2),(7,.int .i64 (i:Int))])
    (fun i w'=>i<=(bc x.n).length/\(∀j,j<i->aD ((bc x.n).getD j default) (ag x.n))/\Hp w0 w' [rO 3 1 eI a2 c2 (bc x.n),rB b1 33 x.cs]) (fun i=>(bc x.n).length-i) 0 rfl ⟨by omega,fun j hj=>by omega,hp⟩ ?_
   rintro i w1 ⟨hi,xL,hp⟩ IH C
   refine bL ?_
   apply ae<;>intro bD
   ·have aF:i<(bc x.n).length:=by omega
    refine aN ?_;refine bb hp ?_
    by_cases aS:aD ((bc x.n).getD i default) (ag x.n)
    ·refine bQ hp Tryz.func81 ((eV _ _ _ (hRR i aF)).yes aS) ?_;intro w hx hp
     refine aM ?_
     refine IH (i+1) _ _ _ (by omega) rfl ⟨by omega,fun j hj=> ?_,hp⟩
     by_cases dA:j<i
     ·exact xL j dA
     ·obtain rfl:j=i:=by omega
      exact aS
    ·refine bQ hp Tryz.func81 ((eV _ _ _ (hRR i aF)).no aS) ?_;intro w hx hp
     refine aN ?_;refine aq ?_
     have gM:¬aj x.n:=fun h=>aS (h.roots i aF)
     exact⟨by rw[cY gM],hp.x⟩
   ·refine aM ?_
    obtain rfl:i=(bc x.n).length:=by omega
    refine aR [1,8] (fun(i:Nat)=>[(1,.pointer (some ⟨b1,0,none⟩)),(8,.int .i64 (i:Int))])
     (fun i w'=>i<=x.af.length/\(∀j,j<i->aD (x.af.getD j default).1 (aB x.n+j)/\aD (x.af.getD j default).2 (aB x.n+j))/\Hp w0 w' [rB b1 33 x.cs]) (fun i=>x.af.length-i) 0 rfl ⟨by omega,fun j hj=>by omega,hp.drop⟩ ?_
    rintro i w1 ⟨hi,C3,hp⟩ IH C
    refine bL ?_;refine aH hp ?_
    apply ae<;>intro bD
    ·have aF:i<x.af.length:=by omega
     have Jy:=hW.af i aF
     refine aN ?_
     refine j8 hp ?_;intro w hx hp;have hs:=hp;(repeat(refine ah ?_;first|refine dQ ?_|refine mG rfl (by omega) rfl rfl rfl ?_))
     refine oW Tryz.func137 (jG x _ (qw iA)) ?_;rintro _ w ⟨rfl,hx⟩;have hp:=hp.ext hx;have hs:=hs.ext hx;refine⟨fun _=>hs,?_⟩;refine fW ?_
     by_cases nR:aD (x.af.getD i default).1 (aB x.n+i)
     ·refine oW Tryz.func81 ((eV _ _ _ Jy.1).yes nR) ?_;rintro _ w ⟨rfl,hx⟩;have hp:=hp.ext hx;have hs:=hs.ext hx;refine⟨fun _=>hs,?_⟩;refine fW ?_;(repeat(first|(refine aG ?_;refine cH rfl rfl rfl ?_)|(refine ah ?_;first|refine dQ ?_|refine mG rfl (by omega) rfl rfl rfl ?_)))
      refine oW Tryz.func137 (jG x _ (qw iA)) ?_;rintro _ w ⟨rfl,hx⟩;have hp:=hp.ext hx;have hs:=hs.ext hx;refine⟨fun _=>hs,?_⟩;refine fW ?_;(repeat(refine cH rfl rfl rfl ?_))
      by_cases aS:aD (x.af.getD i default).2 (aB x.n+i)
      ·refine oW Tryz.func81 ((eV _ _ _ Jy.2).yes aS) ?_;rintro _ w ⟨rfl,hx⟩;have hp:=hp.ext hx;have hs:=hs.ext hx;refine⟨fun _=>hs,?_⟩;refine fW ?_;refine cH rfl rfl rfl ?_
       refine aM ?_
       refine IH (i+1) _ _ _ (by omega) rfl ⟨by omega,fun j hj=> ?_,hp⟩
       by_cases dA:j<i
       ·exact C3 j dA
       ·obtain rfl:j=i:=by omega
        exact⟨nR,aS⟩
      ·refine oW Tryz.func81 ((eV _ _ _ Jy.2).no aS) ?_;rintro _ w ⟨rfl,hx⟩;have hp:=hp.ext hx;have hs:=hs.ext hx;refine⟨fun _=>hs,?_⟩;refine fW ?_;refine cH rfl rfl rfl ?_
       refine aN ?_;refine aq ?_
       have gM:¬aj x.n:=fun h=>aS (h.af i aF).2
       exact⟨by rw[cY gM],hp.x⟩
     ·refine oW Tryz.func81 ((eV _ _ _ Jy.1).no nR) ?_;rintro _ w ⟨rfl,hx⟩;have hp:=hp.ext hx;have hs:=hs.ext hx;refine⟨fun _=>hs,?_⟩;refine fW ?_;(repeat(refine dP rfl rfl rfl ?_))
      refine aN ?_;refine aq ?_
      have gM:¬aj x.n:=fun h=>nR (h.af i aF).1
      exact⟨by rw[cY gM],hp.x⟩
    ·refine aM ?_;refine aq ?_
     obtain rfl:i=x.af.length:=by omega
     have HS:aj x.n:=⟨iA,fun j hj=>by rw[x.tG];exact dK j (by rw[x.fE] at hj;exact hj),xL,C3⟩
     exact⟨by rw[fi HS],hp.x⟩
end Go.Proofs
