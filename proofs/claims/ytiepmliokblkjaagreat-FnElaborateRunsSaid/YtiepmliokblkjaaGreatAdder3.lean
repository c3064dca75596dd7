/- Texts that belong together; each under its stated conditions. -/
import Derived.Test.YtiepmliokblkjaaGreatBrf
import Derived.Test.YtiepmliokblkjaaGreatAdder
import Derived.Test.YtiepmliokblkjaaGreatLists
set_option linter.all false
section
namespace Go.Xw
theorem Rz.look {y:ao}{s s':ao×Bool}(h:Rz s s')(hs:s.1={y with af:=s.1.af}):s'.1={y with af:=s'.1.af}:=by
 rw[h.1.2,hs]
end Go.Xw
namespace Go.Proofs
open Go.Xw
set_option maxRecDepth 100000
set_option maxHeartbeats 4000000
attribute [local irreducible] ax aE
theorem sm (a:Option Addr)(c n:Nat)(X:List Int)(hn:X.length=n)(w0:World)(hR:Rd w0 a 1 eI X)(hl:X.length<=1000)(hx:∀i,i<X.length->0<=X.getD i default/\X.getD i default<=1000000):
  bN Tryz.prog 97 [.slice a n c] w0 (fun v w=>∃b c',v= .slice b n c'/\Hp w0 w [rO 3 1 eI b c' (X.map cS)]):=by
 subst hn
 refine eu Tryz.VF ?_;intro C hp
 refine eg [3,6,7,8] (fun(i:Nat) (b:Option Addr) (c':Nat)=>[(3,.slice b ((X.take i).map cS).length c'),(6,.slice a X.length c),(7,.int .i64 X.length),(8,.int .i64 (i:Int))])
  (fun i b c' w'=>i<=X.length/\Hp w0 w' [rO 3 1 eI b c' ((X.take i).map cS)]) (fun i _ _=>X.length-i) 0 none 0 rfl ⟨by omega,hp.eH (Ext.refl _) (dk.nil _ _ _ _ _)⟩ ?_
 clear hp
 rintro i b c' w1 ⟨hi,hp⟩ IH C
 have Nc:((X.take i).map cS).length=i:=by simp;omega
 refine bL ?_
 apply ae<;>intro bD
 ·have aF:i<X.length:=by omega
  have hxi:=hx i aF
  have e:(X.take (i+1)).map cS=(X.take i).map cS++[cS (X.getD i default)]:=by rw[dm aF,List.map_append];rfl
  have en:bits .xor .i64 (X.getD i default) 1=cS (X.getD i default):=rfl
  refine aN ?_;(repeat(first|(refine ah ?_;refine bb hp ?_)|(refine bK ?_;refine gG hp ?_;intro w _ hx hp;refine az ?_)))
  refine gT hp ?_;intro b' VK w hp bZ;refine az ?_
  refine IH (i+1) b' VK _ _ _ (by omega) (by rw[e];rfl) ⟨by omega,?_⟩
  rw[e]
  exact hp.drop
 ·refine aM ?_;refine aq ?_
  obtain rfl:i=X.length:=by omega
  rw[List.take_length] at hp
  exact⟨b,c',by rw[Nc],hp⟩
theorem KD (y:bf)(s:ao×Bool)(z:Int)(bx p wd:Nat)(hw:1<=wd/\wd<=4)(sv:Value)(aa:Option Addr)(ac:Nat){w0 w1:World}{L:List bh}(jP:Hp w0 w1 (rB bx 88 [.pointer (some ⟨p,0,none⟩),sv,.int .i64 (wd:Int),.bool s.2]::rB p 33 (y.wA aa ac s.1.af).cs::rO 120 2 gh aa ac s.1.af::L)):
  bN Tryz.prog 155 [.pointer (some ⟨bx,0,none⟩),.int .i64 z] w1 (fun v w'=>∃b c,v= .slice b wd c/\Hp w0 w' (rO 3 1 eI b c (ll wd z)::rB bx 88 [.pointer (some ⟨p,0,none⟩),sv,.int .i64 (wd:Int),.bool s.2]::rB p 33 (y.wA aa ac s.1.af).cs::rO 120 2 gh aa ac s.1.af::L)):=by
 refine enter Tryz.QS _ _ rfl rfl (by show _<=_;simp only[List.length];decide) (fun C=> ?_);have hp:=jP;refine bL ?_
 refine aI hp ?_
 refine mG hp eI 0 rfl rfl rfl rfl (s:=1) rfl (by decide) rfl (by unfold maxLen;omega) (by show 8*_<=_;omega) ?_;intro w b hx hp;refine az ?_
 have CH:(List.replicate wd (0:Int)).length=wd:=by simp
 first|refine nO hp (y:=z) rfl rfl rfl (by omega) (by decide) (rfl) rfl ?_|refine ki hp (y:=z) rfl rfl rfl (by omega) (by decide) (rfl) rfl ?_
 intro w hp;refine az ?_;refine aq ?_
 exact⟨_,_,rfl,hp⟩
theorem vZ (R:List (cL Int))(sa:Option Addr)(sc:Nat)(i k:Nat)(hi:i<R.length)(hk:k<=1000)(bx p wd:Nat)(bad:Bool){w0 w1:World}{L:List bh}(hl:R.length<=1000)[hS:gm w0 L sa 1 jl R][hQ:kp w0 L 1 eI R](hg:(R.getD i default).ins.length<=1000)
  (jP:Hp w0 w1 (rB bx 88 [.pointer (some ⟨p,0,none⟩),.slice sa R.length sc,.int .i64 (wd:Int),.bool bad]::L)):
  bN Tryz.prog 151 [.pointer (some ⟨bx,0,none⟩),.int .i64 (i:Int),.int .i64 (k:Int)] w1 (fun v w'=>v= .int .i64 (g7 (R.getD i default).ins k)/\Ext w1 w'):=by
 have Li:=hQ.at_ hi
 refine enter Tryz.QO _ _ rfl rfl (by show _<=_;simp only[List.length];decide) (fun C=> ?_);have hp:=jP;refine bL ?_
 (repeat(refine ah ?_;first|refine aI hp ?_|refine bb hp ?_))
 apply ae<;>intro h
 ·refine aN ?_;(repeat(first|(refine ah ?_;first|refine aI hp ?_|refine bb hp ?_)|refine aq ?_))
  exact⟨rfl,Ext.refl _⟩
 ·refine aM ?_;refine aq ?_
  refine⟨?_,Ext.refl _⟩
  unfold g7
  rw[List.getD_eq_getElem?_getD,List.getElem?_eq_none (by omega)]
  rfl
theorem OQ (y:bf)(s0:ao×Bool)(hs:s0.1={y.n with af:=s0.1.af})(aS:aj s0.1)(aA bA:Option Addr)(cA cB wd:Nat)(hw:1<=wd/\wd<=4)(a b:List Int)(ci:Int)(IT:a.length=wd)(Td:b.length=wd)(ha:∀z,z∈a->aD z (ag s0.1))(hb:∀z,z∈b->aD z (ag s0.1))(hc:aD ci (ag s0.1))(bx p:Nat)(sv:Value)(aa:Option Addr)(ac:Nat){w0 w1:World}{L:List bh}[hA:gm w0 L aA 1 eI a][hB:gm w0 L bA 1 eI b](jP:Hp w0 w1 (rB bx 88 [.pointer (some ⟨p,0,none⟩),sv,.int .i64 (wd:Int),.bool s0.2]::rB p 33 (y.wA aa ac s0.1.af).cs::rO 120 2 gh aa ac s0.1.af::L)):
  bN Tryz.prog 101 [.pointer (some ⟨bx,0,none⟩),.slice aA wd cA,.slice bA wd cB,.int .i64 ci] w1 (fun v w'=>∃b' c' kv kx,v= .slice b' wd c'/\Hp w0 w' (rO 3 1 eI b' c' (qD a6 s0 a b ci).2::rB bx 88 [.pointer (some ⟨p,0,none⟩),sv,.int .i64 (wd:Int),.bool (qD a6 s0 a b ci).1.2]::rB p 33 (y.wA kv kx (qD a6 s0 a b ci).1.1.af).cs::rO 120 2 gh kv kx (qD a6 s0 a b ci).1.1.af::L)):=by
 refine enter Tryz.Qc _ _ rfl rfl (by show _<=_;simp only[List.length];decide) (fun C=> ?_);have hp:=jP;refine bL ?_
 skip
 refine lU [0,1,2,3,9,15,16] (fun(k:Nat) (o:Option Addr) (oc:Nat) (_:Option Addr) (_:Nat)=>[(0,.pointer (some ⟨bx,0,none⟩)),(1,.slice aA wd cA),(2,.slice bA wd cB),(3,.int .i64 (bU a6 s0 a b ci k).2.2),(9,.slice o (bU a6 s0 a b ci k).2.1.length oc),(15,.int .i64 (wd:Int)),(16,.int .i64 (k:Int))])
  (fun k o oc aa ac w'=>k<=wd/\Hp w0 w' (rO 3 1 eI o oc (bU a6 s0 a b ci k).2.1::rB bx 88 [.pointer (some ⟨p,0,none⟩),sv,.int .i64 (wd:Int),.bool (bU a6 s0 a b ci k).1.2]::rB p 33 (y.wA aa ac (bU a6 s0 a b ci k).1.1.af).cs::rO 120 2 gh aa ac (bU a6 s0 a b ci k).1.1.af::L)) (fun k _ _ _ _=>wd-k) 0 none 0 aa ac rfl ⟨by omega,hp.eH (Ext.refl _) (dk.nil _ _ _ _ _)⟩ ?_
 clear hp
 rintro k o oc aa ac w1 ⟨hk,hp⟩ IH C
 obtain⟨g,gc⟩:=oz cG aS ha hb hc k
 have F8:=jV a6 s0 a b ci k
 obtain⟨r,hr⟩:∃r,r=bU a6 s0 a b ci k:=⟨_,rfl⟩
 rw[<-hr] at g gc F8 hp⊢
 have hi:aj r.1.1:=g.i
 have rq:=g.dX.look hs
 have rq:r.1.1={y.n with af:=r.1.1.af}:=rq
 refine bL ?_
 apply ae<;>intro bD
 ·have CF:k<wd:=by omega
  have va:aD (a.getD k default) (ag r.1.1):=(ha _ (aK (by omega))).mono g.dX.1.1
  have vb:aD (b.getD k default) (ag r.1.1):=(hb _ (aK (by omega))).mono g.dX.1.1
  have vc:aD r.2.2 (ag r.1.1):=gc
  refine aN ?_
  have hp:=hp.f3.f3.f3
  obtain⟨u,hu⟩:∃u,u=a.getD k default:=⟨_,rfl⟩
  obtain⟨v,hv⟩:∃v,v=b.getD k default:=⟨_,rfl⟩
  rw[<-hu] at va
  rw[<-hv] at vb
  obtain⟨x1,x2,x3⟩:=cG.xor hi va vb
  obtain⟨y1,y2,y3⟩:=cG.xor x1 x2 (vc.mono x3.1.1)
  have l1:=cG.trans x3 y3
  have hX:qC a6 r u v=a6.xor r.1 u v:=rfl
  have hY:jh a6 r u v=a6.xor (a6.xor r.1 u v).1 (a6.xor r.1 u v).2 r.2.2:=rfl
  refine j7 hp ?_;intro w hx hp;have hs:=hp;(repeat(refine fc ?_))
  refine gq ?_
  rw[<-hu,<-hv]
  refine oW Tryz.func100 (uq y r.1 rq hi u v va vb bx p wd sv aa ac hp) ?_;rintro _ w ⟨a1,c1,rfl,hp⟩;refine⟨fun hq=>Bool.noConfusion (hq.symm.trans (by kernel_rfl:bH _ _=false)),?_⟩;refine fO ?_
  skip
  refine cy Tryz.func100 (uq y (a6.xor r.1 u v).1 (x3.look rq) x1 (a6.xor r.1 u v).2 r.2.2 x2 (vc.mono x3.1.1) bx p wd sv a1 c1 hp) ?_;rintro _ w ⟨a2,c2,rfl,hp⟩;refine az ?_;refine gG hp ?_;intro w _ hx hp;refine az ?_
  rw[<-hY] at hp⊢y1 y2 y3 l1
  refine gT hp ?_;intro o' pD w hp bZ;refine az ?_
  have hp:=hp.drop
  apply ae<;>intro h2
  ·have BA:k+1<a.length:=by omega
   have eK:bU a6 s0 a b ci (k+1)=((mN a6 r u v).1,r.2.1++[(jh a6 r u v).2],(mN a6 r u v).2):=by rw[bU,if_pos BA,<-hr,<-hu,<-hv]
   obtain⟨p1,p2,p3⟩:=cG.and y1 (va.mono l1.1.1) (vb.mono l1.1.1)
   have l2:=cG.trans l1 p3
   obtain⟨q1,q2,q3⟩:=cG.and p1 (x2.mono (cG.trans y3 p3).1.1) (vc.mono l2.1.1)
   obtain⟨z1,z2,z3⟩:=cG.or q1 (p2.mono q3.1.1) q2
   refine aN ?_
   refine j7 hp ?_;intro w hx hp;have hs:=hp;(repeat(refine fc ?_))
   refine gq ?_
   rw[<-hu,<-hv]
   refine oW Tryz.func98 (uo y (jh a6 r u v).1 (l1.look rq) y1 u v (va.mono l1.1.1) (vb.mono l1.1.1) bx p wd sv a2 c2 hp) ?_;rintro _ w ⟨a3,c3,rfl,hp⟩;refine⟨fun hq=>Bool.noConfusion (hq.symm.trans (by kernel_rfl:bH _ _=false)),?_⟩;refine fO ?_
   skip
   refine cy Tryz.func98 (uo y (pX a6 r u v).1 (l2.look rq) p1 (a6.xor r.1 u v).2 r.2.2 (x2.mono (cG.trans y3 p3).1.1) (vc.mono l2.1.1) bx p wd sv a3 c3 hp) ?_;rintro _ w ⟨a4,c4,rfl,hp⟩;refine az ?_
   refine cy Tryz.func99 (FK y (pY a6 r u v).1 ((cG.trans l2 q3).look rq) q1 (pX a6 r u v).2 (pY a6 r u v).2 (p2.mono q3.1.1) q2 bx p wd sv a4 c4 hp) ?_;rintro _ w ⟨a5,c5,rfl,hp⟩;refine az ?_
   refine IH (k+1) o' pD a5 c5 _ _ _ (by omega) (by rw[eK];rfl) ⟨by omega,?_⟩
   rw[eK]
   exact hp.f2.f2.f2.f3
  ·have BA:¬k+1<a.length:=by omega
   have eK:bU a6 s0 a b ci (k+1)=((jh a6 r u v).1,r.2.1++[(jh a6 r u v).2],r.2.2):=by rw[bU,if_neg BA,<-hr,<-hu,<-hv]
   refine aM ?_
   refine IH (k+1) o' pD a2 c2 _ _ _ (by omega) (by rw[eK];rfl) ⟨by omega,?_⟩
   rw[eK]
   exact hp.f2.f2.f2.f3
 ·refine aM ?_;refine aq ?_
  obtain rfl:k=wd:=by omega
  have e:bU a6 s0 a b ci k=bU a6 s0 a b ci a.length:=by rw[IT]
  rw[hr,e] at hp
  exact⟨o,oc,aa,ac,by rw[F8],hp⟩
theorem AQ (y:bf)(kind:Int)(s0:ao×Bool)(hs:s0.1={y.n with af:=s0.1.af})(aS:aj s0.1)(aA bA:Option Addr)(cA cB wd:Nat)(hw:1<=wd/\wd<=4)(a b:List Int)(IT:a.length=wd)(Td:b.length=wd)(ha:∀z,z∈a->aD z (ag s0.1))(hb:∀z,z∈b->aD z (ag s0.1))(bx p:Nat)(sv:Value)(aa:Option Addr)(ac:Nat){w0 w1:World}{L:List bh}[hA:gm w0 L aA 1 eI a][hB:gm w0 L bA 1 eI b](jP:Hp w0 w1 (rB bx 88 [.pointer (some ⟨p,0,none⟩),sv,.int .i64 (wd:Int),.bool s0.2]::rB p 33 (y.wA aa ac s0.1.af).cs::rO 120 2 gh aa ac s0.1.af::L)):
  bN Tryz.prog 102 [.pointer (some ⟨bx,0,none⟩),.int .i64 kind,.slice aA wd cA,.slice bA wd cB] w1 (fun v w'=>∃b' c' kv kx,v= .slice b' wd c'/\Hp w0 w' (rO 3 1 eI b' c' (ll wd (bV a6 (decide (kind=10)) s0 a b wd).2)::rB bx 88 [.pointer (some ⟨p,0,none⟩),sv,.int .i64 (wd:Int),.bool (bV a6 (decide (kind=10)) s0 a b wd).1.2]::rB p 33 (y.wA kv kx (bV a6 (decide (kind=10)) s0 a b wd).1.1.af).cs::rO 120 2 gh kv kx (bV a6 (decide (kind=10)) s0 a b wd).1.1.af::L)):=by
 obtain⟨eq,heq⟩:∃eq,eq=decide (kind=10):=⟨_,rfl⟩
 rw[<-heq]
 refine enter Tryz.Qd _ _ rfl rfl (by show _<=_;simp only[List.length];decide) (fun C=> ?_);have hp:=jP;refine bL ?_
 skip
 apply ae<;>intro qe
 ·have hbv:eq=true:=by rw[heq];exact decide_eq_true qe
  refine aN ?_
  refine eg [0,1,2,3,9,15,16] (fun(k:Nat) (_:Option Addr) (_:Nat)=>[(0,.pointer (some ⟨bx,0,none⟩)),(1,.int .i64 kind),(2,.slice aA wd cA),(3,.slice bA wd cB),(9,.int .i64 (bV a6 eq s0 a b k).2),(15,.int .i64 (wd:Int)),(16,.int .i64 (k:Int))])
   (fun k aa ac w'=>k<=wd/\Hp w0 w' (rB bx 88 [.pointer (some ⟨p,0,none⟩),sv,.int .i64 (wd:Int),.bool (bV a6 eq s0 a b k).1.2]::rB p 33 (y.wA aa ac (bV a6 eq s0 a b k).1.1.af).cs::rO 120 2 gh aa ac (bV a6 eq s0 a b k).1.1.af::L)) (fun k _ _=>wd-k) 0 aa ac (by subst hbv;rfl) ⟨by omega,hp⟩ ?_
  clear hp
  rintro k aa ac w1 ⟨hk,hp⟩ IH C
  obtain⟨hi,wL,hle⟩:=js cG eq aS ha hb k
  obtain⟨r,hr⟩:∃r,r=bV a6 eq s0 a b k:=⟨_,rfl⟩
  rw[<-hr] at hi wL hle hp⊢
  have hi:aj r.1.1:=hi
  have rq:=hle.look hs
  have rq:r.1.1={y.n with af:=r.1.1.af}:=rq
  have wL:aD r.2 (ag r.1.1):=wL
  refine bL ?_
  apply ae<;>intro bD
  ·have CF:k<wd:=by omega
   have va:aD (a.getD k default) (ag r.1.1):=(ha _ (aK (by omega))).mono hle.1.1
   have vb:aD (b.getD k default) (ag r.1.1):=(hb _ (aK (by omega))).mono hle.1.1
   obtain⟨u,hu⟩:∃u,u=a.getD k default:=⟨_,rfl⟩
   obtain⟨v,hv⟩:∃v,v=b.getD k default:=⟨_,rfl⟩
   rw[<-hu] at va
   rw[<-hv] at vb
   obtain⟨x1,x2,x3⟩:=cG.xor hi va vb
   refine aN ?_
   refine j7 hp ?_;intro w hx hp;have hs:=hp;(repeat(refine fc ?_))
   refine gq ?_
   rw[<-hu,<-hv]
   refine oW Tryz.func100 (uq y r.1 rq hi u v va vb bx p wd sv aa ac hp) ?_;rintro _ w ⟨a1,c1,rfl,hp⟩;refine⟨fun hq=>Bool.noConfusion (hq.symm.trans (by kernel_rfl:bH _ _=false)),?_⟩;refine fO ?_
   skip
   by_cases KE:kind=10
   ·have het:eq=true:=by rw[heq];exact decide_eq_true KE
    have eK:bV a6 eq s0 a b (k+1)=a6.and (a6.xor r.1 u v).1 r.2 (a6.not (a6.xor r.1 u v).2):=by rw[bV,if_pos het,<-hr,<-hu,<-hv]
    have xM:=aj.count x1
    have en:bits .xor .i64 (a6.xor r.1 u v).2 1=a6.not (a6.xor r.1 u v).2:=rfl
    have Ez:=x2
    unfold aD at Ez
    refine ae (fun _=> ?_) (fun hg=>False.elim (by omega));refine aN ?_
    rw[en]
    refine cy Tryz.func98 (uo y (a6.xor r.1 u v).1 (x3.look rq) x1 r.2 (a6.not (a6.xor r.1 u v).2) (wL.mono x3.1.1) (cG.not x1 x2) bx p wd sv a1 c1 hp) ?_;rintro _ w ⟨a2,c2,rfl,hp⟩;refine az ?_
    refine IH (k+1) a2 c2 _ _ _ (by omega) (by rw[eK];rfl) ⟨by omega,?_⟩
    rw[eK]
    exact hp
   ·have het:eq=false:=by rw[heq];exact decide_eq_false KE
    have eK:bV a6 eq s0 a b (k+1)=a6.jk (a6.xor r.1 u v).1 (a6.xor r.1 u v).2 v r.2:=by rw[bV,if_neg (by rw[het];decide),<-hr,<-hu,<-hv]
    refine ae (fun hg=>False.elim (by omega)) (fun _=> ?_);refine aM ?_;refine bb hp ?_
    rw[<-hv]
    refine cy Tryz.func103 (Cj y (a6.xor r.1 u v).1 (x3.look rq) x1 (a6.xor r.1 u v).2 v r.2 x2 (vb.mono x3.1.1) (wL.mono x3.1.1) bx p wd sv a1 c1 hp) ?_;rintro _ w ⟨a2,c2,rfl,hp⟩;refine az ?_
    refine IH (k+1) a2 c2 _ _ _ (by omega) (by rw[eK];rfl) ⟨by omega,?_⟩
    rw[eK]
    exact hp
  ·refine aM ?_
   obtain rfl:k=wd:=by omega
   refine cy Tryz.func155 (KD y r.1 r.2 bx p k hw sv aa ac hp) ?_;rintro _ w ⟨b',c',rfl,hp⟩;refine az ?_;refine aq ?_
   rw[<-hr]
   exact⟨b',c',aa,ac,rfl,hp⟩
 ·have hbv:eq=false:=by rw[heq];exact decide_eq_false qe
  refine aM ?_
  refine eg [0,1,2,3,9,15,16] (fun(k:Nat) (_:Option Addr) (_:Nat)=>[(0,.pointer (some ⟨bx,0,none⟩)),(1,.int .i64 kind),(2,.slice aA wd cA),(3,.slice bA wd cB),(9,.int .i64 (bV a6 eq s0 a b k).2),(15,.int .i64 (wd:Int)),(16,.int .i64 (k:Int))])
   (fun k aa ac w'=>k<=wd/\Hp w0 w' (rB bx 88 [.pointer (some ⟨p,0,none⟩),sv,.int .i64 (wd:Int),.bool (bV a6 eq s0 a b k).1.2]::rB p 33 (y.wA aa ac (bV a6 eq s0 a b k).1.1.af).cs::rO 120 2 gh aa ac (bV a6 eq s0 a b k).1.1.af::L)) (fun k _ _=>wd-k) 0 aa ac (by subst hbv;rfl) ⟨by omega,hp⟩ ?_
  clear hp
  rintro k aa ac w1 ⟨hk,hp⟩ IH C
  obtain⟨hi,wL,hle⟩:=js cG eq aS ha hb k
  obtain⟨r,hr⟩:∃r,r=bV a6 eq s0 a b k:=⟨_,rfl⟩
  rw[<-hr] at hi wL hle hp⊢
  have hi:aj r.1.1:=hi
  have rq:=hle.look hs
  have rq:r.1.1={y.n with af:=r.1.1.af}:=rq
  have wL:aD r.2 (ag r.1.1):=wL
  refine bL ?_
  apply ae<;>intro bD
  ·have CF:k<wd:=by omega
   have va:aD (a.getD k default) (ag r.1.1):=(ha _ (aK (by omega))).mono hle.1.1
   have vb:aD (b.getD k default) (ag r.1.1):=(hb _ (aK (by omega))).mono hle.1.1
   obtain⟨u,hu⟩:∃u,u=a.getD k default:=⟨_,rfl⟩
   obtain⟨v,hv⟩:∃v,v=b.getD k default:=⟨_,rfl⟩
   rw[<-hu] at va
   rw[<-hv] at vb
   obtain⟨x1,x2,x3⟩:=cG.xor hi va vb
   refine aN ?_
   refine j7 hp ?_;intro w hx hp;have hs:=hp;(repeat(refine fc ?_))
   refine gq ?_
   rw[<-hu,<-hv]
   refine oW Tryz.func100 (uq y r.1 rq hi u v va vb bx p wd sv aa ac hp) ?_;rintro _ w ⟨a1,c1,rfl,hp⟩;refine⟨fun hq=>Bool.noConfusion (hq.symm.trans (by kernel_rfl:bH _ _=false)),?_⟩;refine fO ?_
   skip
   by_cases KE:kind=10
   ·have het:eq=true:=by rw[heq];exact decide_eq_true KE
    have eK:bV a6 eq s0 a b (k+1)=a6.and (a6.xor r.1 u v).1 r.2 (a6.not (a6.xor r.1 u v).2):=by rw[bV,if_pos het,<-hr,<-hu,<-hv]
    have xM:=aj.count x1
    have en:bits .xor .i64 (a6.xor r.1 u v).2 1=a6.not (a6.xor r.1 u v).2:=rfl
    have Ez:=x2
    unfold aD at Ez
    refine ae (fun _=> ?_) (fun hg=>False.elim (by omega));refine aN ?_
    rw[en]
    refine cy Tryz.func98 (uo y (a6.xor r.1 u v).1 (x3.look rq) x1 r.2 (a6.not (a6.xor r.1 u v).2) (wL.mono x3.1.1) (cG.not x1 x2) bx p wd sv a1 c1 hp) ?_;rintro _ w ⟨a2,c2,rfl,hp⟩;refine az ?_
    refine IH (k+1) a2 c2 _ _ _ (by omega) (by rw[eK];rfl) ⟨by omega,?_⟩
    rw[eK]
    exact hp
   ·have het:eq=false:=by rw[heq];exact decide_eq_false KE
    have eK:bV a6 eq s0 a b (k+1)=a6.jk (a6.xor r.1 u v).1 (a6.xor r.1 u v).2 v r.2:=by rw[bV,if_neg (by rw[het];decide),<-hr,<-hu,<-hv]
    refine ae (fun hg=>False.elim (by omega)) (fun _=> ?_);refine aM ?_;refine bb hp ?_
    rw[<-hv]
    refine cy Tryz.func103 (Cj y (a6.xor r.1 u v).1 (x3.look rq) x1 (a6.xor r.1 u v).2 v r.2 x2 (vb.mono x3.1.1) (wL.mono x3.1.1) bx p wd sv a1 c1 hp) ?_;rintro _ w ⟨a2,c2,rfl,hp⟩;refine az ?_
    refine IH (k+1) a2 c2 _ _ _ (by omega) (by rw[eK];rfl) ⟨by omega,?_⟩
    rw[eK]
    exact hp
  ·refine aM ?_
   obtain rfl:k=wd:=by omega
   refine cy Tryz.func155 (KD y r.1 r.2 bx p k hw sv aa ac hp) ?_;rintro _ w ⟨b',c',rfl,hp⟩;refine az ?_;refine aq ?_
   rw[<-hr]
   exact⟨b',c',aa,ac,rfl,hp⟩
end Go.Proofs
end
section
namespace Go.Xw
def fM (sig:List (List Int))(o:dK)(k:Nat):Int:=if o.kind=0 then o.a/2^k%2 else if o.kind=2 then g7 (sig.getD o.a.toNat default) k else if k=0 then g7 (sig.getD o.a.toNat default) o.b.toNat else 0
theorem KF (sig:List (List Int))(w:Nat)(o:dK):tN sig w o=(List.range w).map (fM sig o):=rfl
end Go.Xw
namespace Go.Proofs
open Go.Xw
set_option maxRecDepth 100000
set_option maxHeartbeats 4000000
attribute [local irreducible] ax aE
theorem Sj (R:List (cL Int))(sa:Option Addr)(sc:Nat)(hl:R.length<=1000)(o:dK)(ho:e6 o R.length)(qe:o.kind=0\/o.kind=2\/o.kind=3)(hg:∀i,i<R.length->(R.getD i default).ins.length<=1000)(bx p wd:Nat)(hw:1<=wd/\wd<=4)(bad:Bool){w0 w1:World}{L:List bh}[hS:gm w0 L sa 1 jl R][hQ:kp w0 L 1 eI R]
  (jP:Hp w0 w1 (rB bx 88 [.pointer (some ⟨p,0,none⟩),.slice sa R.length sc,.int .i64 (wd:Int),.bool bad]::L)):
  bN Tryz.prog 96 [.pointer (some ⟨bx,0,none⟩),.agg ⟨kf o⟩] w1 (fun v w'=>∃b c,v= .slice b wd c/\Hp w0 w' (rO 3 1 eI b c (tN (aJ R) wd o)::rB bx 88 [.pointer (some ⟨p,0,none⟩),.slice sa R.length sc,.int .i64 (wd:Int),.bool bad]::L)):=by
 refine enter Tryz.VE _ _ rfl rfl (by show _<=_;simp only[List.length];decide) (fun C=> ?_);have hp:=jP;refine bL ?_
 refine bP hp ?_;intro w b3 hx hp;refine az ?_;refine aI hp ?_
 refine mG hp eI 0 rfl rfl rfl rfl (s:=1) rfl (by decide) rfl (by unfold maxLen;omega) (by show 8*_<=_;omega) ?_;intro w b hx hp;refine az ?_;refine aI hp ?_
 have CH:(List.replicate wd (0:Int)).length=wd:=by simp
 have hp:Hp w0 _ (rO 3 1 eI (some ⟨b,0,none⟩) wd (List.replicate wd 0)::rB b3 132 [.int .i64 o.kind,.int .i64 o.a,.int .i64 o.b]::rB bx 88 [.pointer (some ⟨p,0,none⟩),.slice sa R.length sc,.int .i64 (wd:Int),.bool bad]::L):=hp
 rw[KF]
 rcases qe with h0|h2|h3
 ·have Nh:=(BO h0).1 ho
  refine ae (fun _=> ?_) (fun hg=>False.elim (by omega));refine aN ?_
  rw[<-kJ (fM (aJ R) o) (List.replicate wd (0:Int))] at hp
  refine aR [3,5,18,19] (fun(i:Nat)=>[(3,.pointer (some ⟨b3,0,none⟩)),(5,.slice (some ⟨b,0,none⟩) wd wd),(18,.int .i64 (wd:Int)),(19,.int .i64 (i:Int))])
   (fun i w'=>i<=wd/\Hp w0 w' (rO 3 1 eI (some ⟨b,0,none⟩) wd (lY (fM (aJ R) o) i (List.replicate wd 0))::rB b3 132 [.int .i64 o.kind,.int .i64 o.a,.int .i64 o.b]::rB bx 88 [.pointer (some ⟨p,0,none⟩),.slice sa R.length sc,.int .i64 (wd:Int),.bool bad]::L)) (fun i=>wd-i) 0 rfl ⟨by omega,hp⟩ ?_
  clear hp
  rintro k w1 ⟨hk,hp⟩ IH C
  have hul:=xK (f:=fM (aJ R) o) (X:=List.replicate wd (0:Int)) (i:=k) (by omega)
  refine bL ?_
  apply ae<;>intro bD
  ·have p6:k<wd:=by omega
   have Xp:((k:Nat):Int)<=((IntKind.i64.bits:Nat):Int):=by show((k:Nat):Int)<=64;omega
   have ef:fM (aJ R) o k=bits .and .i64 (o.a/2^k) 1:=by rw[dx];unfold fM;rw[if_pos h0]
   refine aN ?_;(repeat(first|(refine ah ?_;refine aI hp ?_)|(refine aH ?_;refine nO hp rfl rfl rfl (by omega) (by decide) rfl rfl ?_;intro w hp;refine az ?_)))
   refine IH (k+1) _ _ _ (by omega) rfl ⟨by omega,?_⟩
   rw[<-mI (f:=fM (aJ R) o) (by omega),ef]
   exact hp
  ·refine aM ?_;refine aq ?_
   obtain rfl:k=wd:=by omega
   have dL:=tG (fM (aJ R) o) (List.replicate k (0:Int))
   rw[CH] at dL
   rw[dL] at hp
   exact⟨_,_,rfl,(hp.f1).drop⟩
 ·obtain⟨Nh,IJ⟩:=(yj h2).1 ho
  refine ae (fun hg=>False.elim (by omega)) (fun _=> ?_);refine aM ?_
  refine ae (fun _=> ?_) (fun hg=>False.elim (by omega));refine aN ?_
  rw[<-kJ (fM (aJ R) o) (List.replicate wd (0:Int))] at hp
  refine aR [0,3,5,35,36] (fun(i:Nat)=>[(0,.pointer (some ⟨bx,0,none⟩)),(3,.pointer (some ⟨b3,0,none⟩)),(5,.slice (some ⟨b,0,none⟩) wd wd),(35,.int .i64 (wd:Int)),(36,.int .i64 (i:Int))])
   (fun i w'=>i<=wd/\Hp w0 w' (rO 3 1 eI (some ⟨b,0,none⟩) wd (lY (fM (aJ R) o) i (List.replicate wd 0))::rB b3 132 [.int .i64 o.kind,.int .i64 o.a,.int .i64 o.b]::rB bx 88 [.pointer (some ⟨p,0,none⟩),.slice sa R.length sc,.int .i64 (wd:Int),.bool bad]::L)) (fun i=>wd-i) 0 rfl ⟨by omega,hp⟩ ?_
  clear hp
  rintro k w1 ⟨hk,hp⟩ IH C
  have hul:=xK (f:=fM (aJ R) o) (X:=List.replicate wd (0:Int)) (i:=k) (by omega)
  obtain⟨ia,M6⟩:=Int.eq_ofNat_of_zero_le Nh.1
  refine bL ?_
  apply ae<;>intro bD
  ·have p6:k<wd:=by omega
   have ef:fM (aJ R) o k=g7 (R.getD ia default).ins k:=by
    unfold fM;rw[if_neg (by omega),if_pos h2,M6,Int.toNat_natCast,bk]
   refine aN ?_;refine aI hp ?_
   rw[M6]
   refine bQ hp Tryz.func151 (vZ R sa sc ia k (by omega) (by omega) bx p wd bad hl (hg ia (by omega)) (hp.f1.f1.f2)) ?_;intro w hx hp;refine nO hp rfl rfl rfl (by omega) (by decide) rfl rfl ?_;intro w hp;refine az ?_
   refine IH (k+1) _ _ _ (by omega) rfl ⟨by omega,?_⟩
   rw[<-mI (f:=fM (aJ R) o) (by omega),ef]
   exact hp
  ·refine aM ?_;refine aq ?_
   obtain rfl:k=wd:=by omega
   have dL:=tG (fM (aJ R) o) (List.replicate k (0:Int))
   rw[CH] at dL
   rw[dL] at hp
   exact⟨_,_,rfl,(hp.f1).drop⟩
 ·obtain⟨Nh,IJ⟩:=(yk h3).1 ho
  obtain⟨ia,M6⟩:=Int.eq_ofNat_of_zero_le Nh.1
  obtain⟨ib,Sk⟩:=Int.eq_ofNat_of_zero_le IJ.1
  refine ae (fun hg=>False.elim (by omega)) (fun _=> ?_);refine aM ?_
  refine ae (fun hg=>False.elim (by omega)) (fun _=> ?_);refine aM ?_
  refine ae (fun _=> ?_) (fun hg=>False.elim (by omega));refine aN ?_;(repeat(refine aI hp ?_))
  rw[M6,Sk]
  refine bQ hp Tryz.func151 (vZ R sa sc ia ib (by omega) (by omega) bx p wd bad hl (hg ia (by omega)) (hp.f1.f1.f2)) ?_;intro w hx hp;refine ki hp rfl rfl rfl (by omega) (by decide) rfl rfl ?_;intro w hp;refine az ?_;refine aq ?_
  have e:(List.range wd).map (fM (aJ R) o)=(List.replicate wd (0:Int)).set 0 (g7 (R.getD ia default).ins ib):=by
   refine List.ext_getElem (by simp) fun j h1 Te=> ?_
   simp only[List.getElem_map,List.getElem_range]
   unfold fM
   rw[if_neg (by omega),if_neg (by omega)]
   by_cases hj:j=0
   ·subst hj
    rw[if_pos rfl,M6,Sk,Int.toNat_natCast,Int.toNat_natCast,bk];simp
   ·rw[if_neg hj,List.getElem_set_ne (fun h=>hj h.symm)];simp
  rw[e]
  exact⟨_,_,rfl,(hp.f1).drop⟩
end Go.Proofs
end
