/- The contract of the reference's AddExpr; under its stated conditions. -/
import Derived.Test.YtiepmliokblkjaaGreatBrf
import Derived.Test.YtiepmliokblkjaaGreatAxE
import Derived.Test.YtiepmliokblkjaaGreatMapLaw
import Derived.Test.YtiepmliokblkjaaGreatAxS
import Derived.Test.YtiepmliokblkjaaGreatAddLaw
set_option linter.all false
namespace Go.Proofs
open Go.Xw
set_option maxRecDepth 100000
set_option maxHeartbeats 2000000
attribute [local irreducible] ax aE
theorem zO (x:bf)(sa:Option Addr)(sc:Nat)(R:List (cL Int))(oa:Option Addr)(oc:Nat)(ops:List dJ)(wv:Int)(w0:World)(hX:fG w0 x)(hS:kL x.n)(hW:nq x.n)(hR:Rd w0 sa 1 jk R)(hQ:Lj w0 R)(hO:Rd w0 oa 3 kg ops)(fF:R.length<=1048576)(pU:∀i,i<R.length->(R.getD i default).ins.length<=1048576)(hRv:∀i,i<R.length->∀j,j<(R.getD i default).ins.length->da ((R.getD i default).ins.getD j default))(jL:ops.length<=1048576)(XF:∀i,i<ops.length->u5 (ops.getD i default))(hw:da wv):
  bN Tryz.prog 30 [x.v,.slice sa R.length sc,.slice oa ops.length oc,.int .i64 wv] w0 (fun v w'=>∃y b c,(y.n=(Ey x.n (aJ R) ops wv).1/\v= .tuple ⟨[y.v,.slice b (Ey x.n (aJ R) ops wv).2.length c]⟩)/\Hp w0 w' [dv y,rO 3 1 eI b c (Ey x.n (aJ R) ops wv).2]):=by
 have pW:(aJ R).length=R.length:=fg R
 unfold da at hw
 refine eu Tryz.UZ ?_;intro C hp;skip;refine bP hp ?_;intro w b4 hx hp;refine az ?_;skip;refine bP hp ?_;intro w b8 hx hp;refine az ?_;(repeat(first|(refine ah ?_;refine aH hp ?_)|(refine bK ?_;refine gG hp ?_;intro w _ hx hp;refine az ?_)))
 by_cases aS:aj x.n
 ·have hc:=aS.count
  refine bQ hp Tryz.func77 ((eZ x _ hp.dR hS hW).tt (fi aS)) ?_;intro w hx hp;(repeat(refine aO ?_))
  (first|apply fx|apply cf)<;>intro h30 e<;>rw[e]<;>clear e;all_goals((repeat(refine aG ?_;first|refine aO ?_|refine ba ?_)))
  ·have gM:=sQ (n:=x.n) (sig:=aJ R) (ops:=ops) (w:=wv) (fun h=>by have:=h.Z2;omega)
   refine aN ?_;refine aH hp ?_
   refine cx Tryz.func80 (cq x _ hp.dR hS) ?_;rintro _ w ⟨y,⟨hy,rfl⟩,hq⟩;have hx:=hq.x;have hp:=hp.bJ hq;refine az ?_;refine aW hp ?_;intro w hp;refine az ?_;refine bh hp rfl ?_
   rw[gM]
   exact⟨y,_,_,⟨hy,rfl⟩,hp.tk 2⟩
  ·by_cases HG:fT ops R.length
   ·refine bQ hp Tryz.func78 (fA oa oc ops.length ops rfl R.length _ hp.rd jL XF) ?_;intro w hx hp;refine aO ?_
    rw[lv HG]
    (repeat(refine aO ?_))
    by_cases Kx:1<=wv/\wv<=4
    ·refine bQ hp Tryz.func79 ((cD wv 1 4 _).yes Kx) ?_;intro w hx hp;refine aO ?_
     refine aM ?_
     refine eg [1,2,3,4,8,10,11] (fun(i:Nat) (ng:Option Addr) (Lq:Nat)=>[(1,.slice sa R.length sc),(2,.slice oa ops.length oc),(3,.int .i64 wv),(4,.pointer (some ⟨b4,0,none⟩)),(8,.pointer (some ⟨b8,0,none⟩)),(10,.slice ng 0 Lq),(11,.int .i64 (i:Int))])
      (fun i ng Lq w'=>(i<=R.length/\∀j,j<i->(R.getD j default).ins.length<=4/\∀z,z∈(R.getD j default).ins->aD z (ag x.n))/\Hp w0 w' [rO 3 1 eI ng Lq ([]:List Int),rB b8 33 (aL Tryz.dY.zero),rB b4 33 x.cs]) (fun i _ _=>R.length-i) 0 _ _ rfl ⟨⟨by omega,fun j hj=>by omega⟩,hp⟩ ?_
     clear hp
     rintro i ng Lq w1 ⟨⟨hi,dK⟩,hp⟩ IH C
     refine bL ?_
     apply ae<;>intro bD
     ·have aF:i<R.length:=by omega
      have hgi:=pU i aF
      have Wt:=hRv i aF
      have Td:=hQ.at_ aF
      refine aN ?_;refine bb hp ?_
      apply ae<;>intro h4
      ·have gM:=sQ (n:=x.n) (sig:=aJ R) (ops:=ops) (w:=wv) (fun h=>by
        have:=(h.sg _ (by rw[<-bk];exact aK (by omega):(R.getD i default).ins∈aJ R)).1
        omega)
       refine aN ?_;refine aH hp ?_
       refine cx Tryz.func80 (cq x _ hp.dR hS) ?_;rintro _ w ⟨y,⟨hy,rfl⟩,hq⟩;have hx:=hq.x;have hp:=hp.bJ hq;refine az ?_;refine aW hp ?_;intro w hp;refine az ?_;refine bh hp rfl ?_
       rw[gM]
       exact⟨y,_,_,⟨hy,rfl⟩,hp.tk 2⟩
      ·refine aM ?_
       refine aR [1,2,3,4,8,10,11,12] (fun(j:Nat)=>[(1,.slice sa R.length sc),(2,.slice oa ops.length oc),(3,.int .i64 wv),(4,.pointer (some ⟨b4,0,none⟩)),(8,.pointer (some ⟨b8,0,none⟩)),(10,.slice ng 0 Lq),(11,.int .i64 (i:Int)),(12,.int .i64 (j:Int))])
        (fun j w'=>(j<=(R.getD i default).ins.length/\∀q,q<j->aD ((R.getD i default).ins.getD q default) (ag x.n))/\Hp w0 w' [rO 3 1 eI ng Lq ([]:List Int),rB b8 33 (aL Tryz.dY.zero),rB b4 33 x.cs]) (fun j=>(R.getD i default).ins.length-j) 0 rfl ⟨⟨by omega,fun q hq=>by omega⟩,hp⟩ ?_
       clear hp
       rintro j w1 ⟨⟨hj,hq⟩,hp⟩ kF C
       refine bL ?_;refine bb hp ?_
       apply ae<;>intro jK
       ·have XG:j<(R.getD i default).ins.length:=by omega
        have eNC:cM x.n=ag x.n:=if_pos aS.size
        refine aN ?_
        refine j8 hp ?_;intro w hx hp;have hs:=hp;(repeat(refine ah ?_;first|refine dQ ?_|refine fo ?_))
        refine gq ?_
        refine oW Tryz.func82 (gY x _) ?_;rintro _ w ⟨rfl,hx⟩;have hp:=hp.ext hx;have hs:=hs.ext hx;refine⟨fun _=>hs,?_⟩;refine fW ?_
        rw[eNC]
        refine oW Tryz.func81 (eV ((R.getD i default).ins.getD j default) (ag x.n) _ (Wt j XG)) ?_;rintro _ w ⟨rfl,hx⟩;have hp:=hp.ext hx;have hs:=hs.ext hx;refine⟨fun _=>hs,?_⟩;refine fW ?_
        skip
        by_cases hl:aD ((R.getD i default).ins.getD j default) (ag x.n)
        ·rw[decide_eq_true hl]
         refine aM ?_
         refine kF (j+1) _ _ _ (by omega) rfl ⟨⟨by omega,fun q R5=> ?_⟩,hp⟩
         by_cases hqj:q=j
         ·subst hqj;exact hl
         ·exact hq q (by omega)
        ·have gM:=sQ (n:=x.n) (sig:=aJ R) (ops:=ops) (w:=wv) (fun h=>hl ((h.sg _ (by rw[<-bk];exact aK (by omega):(R.getD i default).ins∈aJ R)).2 _ (aK XG)))
         rw[decide_eq_false hl]
         refine aN ?_;refine aH hp ?_
         refine cx Tryz.func80 (cq x _ hp.dR hS) ?_;rintro _ w ⟨y,⟨hy,rfl⟩,hq⟩;have hx:=hq.x;have hp:=hp.bJ hq;refine az ?_;refine aW hp ?_;intro w hp;refine az ?_;refine bh hp rfl ?_
         rw[gM]
         exact⟨y,_,_,⟨hy,rfl⟩,hp.tk 2⟩
       ·refine aM ?_
        refine IH (i+1) ng Lq _ _ _ (by omega) rfl ⟨⟨by omega,fun q R5=> ?_⟩,hp⟩
        by_cases hqi':q=i
        ·subst hqi'
         exact⟨by omega,f'.2 fun u hu=>hq u (by omega)⟩
        ·exact dK q (by omega)
     ·refine aM ?_
      obtain rfl:i=R.length:=by omega
      clear IH
      refine aR [1,2,3,4,8,10,13] (fun(j:Nat)=>[(1,.slice sa R.length sc),(2,.slice oa ops.length oc),(3,.int .i64 wv),(4,.pointer (some ⟨b4,0,none⟩)),(8,.pointer (some ⟨b8,0,none⟩)),(10,.slice ng 0 Lq),(13,.int .i64 (j:Int))])
       (fun j w'=>(j<=ops.length/\∀q,q<j->(ops.getD q default).kind≠1)/\Hp w0 w' [rO 3 1 eI ng Lq ([]:List Int),rB b8 33 (aL Tryz.dY.zero),rB b4 33 x.cs]) (fun j=>ops.length-j) 0 rfl ⟨⟨by omega,fun q hq=>by omega⟩,hp⟩ ?_
      clear hp
      rintro j w1 ⟨⟨hj,hq⟩,hp⟩ kF C
      refine bL ?_
      apply ae<;>intro jK
      ·have XG:j<ops.length:=by omega
       refine aN ?_;refine dg hp ?_
       apply ae<;>intro h1
       ·have gM:=sQ (n:=x.n) (sig:=aJ R) (ops:=ops) (w:=wv) (fun h=>h.par _ (aK XG) (by omega))
        refine aN ?_;refine aH hp ?_
        refine cx Tryz.func80 (cq x _ hp.dR hS) ?_;rintro _ w ⟨y,⟨hy,rfl⟩,hq⟩;have hx:=hq.x;have hp:=hp.bJ hq;refine az ?_;refine aW hp ?_;intro w hp;refine az ?_;refine bh hp rfl ?_
        rw[gM]
        exact⟨y,_,_,⟨hy,rfl⟩,hp.tk 2⟩
       ·refine aM ?_
        refine kF (j+1) _ _ _ (by omega) rfl ⟨⟨by omega,fun q R5=> ?_⟩,hp⟩
        by_cases hqj:q=j
        ·subst hqj;exact h1
        ·exact hq q (by omega)
      ·refine aM ?_;refine aH hp ?_
       obtain rfl:j=ops.length:=by omega
       clear kF
       have ns:∀l,l∈aJ R->l.length<=4/\∀z,z∈l->aD z (ag x.n):=f'.2 fun u hu=>by rw[bk];exact dK u (by omega)
       have WS:Mm x.n (aJ R) ops wv:=⟨aS,by omega,by rw[pW];exact HG,f'.2 hq,Kx,ns⟩
       obtain⟨ht1,ht2⟩:=kM WS.Z3 WS.par
       have NF:=Mn WS (fI ops (aJ R).length)
       obtain⟨wd,rfl⟩:=Int.eq_ofNat_of_zero_le (show 0<=wv by omega)
       obtain⟨t,IU⟩:∃t,t=fI ops (aJ R).length:=⟨_,rfl⟩
       rw[<-IU] at ht1 ht2 NF
       rw[Int.toNat_natCast] at NF
       have F7:=WS.Z3.len
       have jb:=kU R sa sc wd (by omega) ops oa oc F7 (by omega) (fun i hi=>by have:=(dK i hi).1;omega) t [] [] (by simpa using ht1) (by rw[pW] at ht2;exact ht2) x _ hp.dR aS (fun l hl=>(ns l hl).2) hp.rd hp.rs hp.rd
       have CB:=cv bY (aJ R) wd t x.n
       obtain⟨r,hr⟩:∃r,r=dB bY (aJ R) wd t x.n:=⟨_,rfl⟩
       have gd:=db bj (sig:=aJ R) wd t aS (fun l hl z hz=> .inl ((ns l hl).2 z hz))
       rw[<-hr] at jb NF gd CB
       refine cx Tryz.func83 jb ?_
       rintro _ w ⟨y1,Lo,Lp,⟨Ci,rfl⟩,hq'⟩
       obtain⟨L1,hp,hN1,EN⟩:=Hp.zn (K:=[_,_,_]) (L:=[]) hp hq'
       have hp:Hp w0 _ (_::_::_::_::L1):=hp
       clear hq' jb
       refine az ?_
       refine bP hp ?_;intro w B8 hx hp;refine az ?_;refine aW hp ?_;intro w hp;refine az ?_
       have ND:aj y1.n:=by rw[Ci];exact gd.i
       refine bQ hp Tryz.func84 (FG Lo Lp wd r.2 CB _ hp.rd (by omega)) ?_;intro w hx hp
       rcases NF with⟨hb,he,oh⟩|⟨hb,hneg⟩
       ·have HS:=Gx (n:=x.n) (sig:=aJ R) (ops:=ops) (w:=(wd:Int)) WS (by rw[<-IU];exact hb)
        rw[<-IU] at HS
        have er1:r.1=(By (aJ R) (wd:Int) t x.n).1.1:=by rw[he]
        have er2:r.2=(By (aJ R) (wd:Int) t x.n).2:=by rw[he]
        rw[HS,<-er1,<-er2]
        rw[decide_eq_true (fun z (hz:z∈r.2)=>oh z (by rw[<-er2];exact hz))]
        skip
        refine aM ?_;refine aH hp ?_
        refine cx Tryz.func80 (cq y1 _ hp.dR ND.S') ?_;rintro _ w ⟨y,⟨hy,rfl⟩,hq⟩;have hx:=hq.x;have hp:=hp.bJ hq;refine az ?_;refine aW hp ?_;intro w hp;refine az ?_;refine bh hp rfl ?_
        exact⟨y,Lo,Lp,⟨by rw[hy,Ci],by rw[CB];rfl⟩,(hp.f2.f1).tk 2⟩
       ·have gM:=Gy (n:=x.n) (sig:=aJ R) (ops:=ops) (w:=(wd:Int)) (by rw[<-IU];exact hb)
        rw[decide_eq_false (by intro hh;obtain⟨z,hz,TG⟩:=hneg;exact absurd (hh z hz) (by omega))]
        skip
        refine aN ?_;refine aH hp ?_
        refine cx Tryz.func80 (cq x _ hp.dR hS) ?_;rintro _ w ⟨y,⟨hy,rfl⟩,hq⟩;have hx:=hq.x;have hp:=hp.bJ hq;refine az ?_;refine aW hp ?_;intro w hp;refine az ?_;refine bh hp rfl ?_
        rw[gM]
        exact⟨y,ng,Lq,⟨hy,rfl⟩,(hp.f3.f1).tk 2⟩
    ·refine bQ hp Tryz.func79 ((cD wv 1 4 _).no Kx) ?_;intro w hx hp;refine aO ?_
     have gM:=sQ (n:=x.n) (sig:=aJ R) (ops:=ops) (w:=wv) (fun h=>Kx h.wid)
     refine aN ?_;refine aH hp ?_
     refine cx Tryz.func80 (cq x _ hp.dR hS) ?_;rintro _ w ⟨y,⟨hy,rfl⟩,hq⟩;have hx:=hq.x;have hp:=hp.bJ hq;refine az ?_;refine aW hp ?_;intro w hp;refine az ?_;refine bh hp rfl ?_
     rw[gM]
     exact⟨y,_,_,⟨hy,rfl⟩,hp.tk 2⟩
   ·refine bQ hp Tryz.func78 (fA oa oc ops.length ops rfl R.length _ hp.rd jL XF) ?_;intro w hx hp;refine aO ?_
    rw[gP HG]
    (repeat(refine ba ?_))
    have gM:=sQ (n:=x.n) (sig:=aJ R) (ops:=ops) (w:=wv) (fun h=>HG (by have:=h.Z3;rw[pW] at this;exact this))
    refine aN ?_;refine aH hp ?_
    refine cx Tryz.func80 (cq x _ hp.dR hS) ?_;rintro _ w ⟨y,⟨hy,rfl⟩,hq⟩;have hx:=hq.x;have hp:=hp.bJ hq;refine az ?_;refine aW hp ?_;intro w hp;refine az ?_;refine bh hp rfl ?_
    rw[gM]
    exact⟨y,_,_,⟨hy,rfl⟩,hp.tk 2⟩
 ·refine bQ hp Tryz.func77 ((eZ x _ hp.dR hS hW).ff (cY aS)) ?_;intro w hx hp;(repeat(refine ba ?_))
  have gM:=sQ (n:=x.n) (sig:=aJ R) (ops:=ops) (w:=wv) (fun h=>aS h.dR)
  refine aN ?_;refine aH hp ?_
  refine cx Tryz.func80 (cq x _ hp.dR hS) ?_;rintro _ w ⟨y,⟨hy,rfl⟩,hq⟩;have hx:=hq.x;have hp:=hp.bJ hq;refine az ?_;refine aW hp ?_;intro w hp;refine az ?_;refine bh hp rfl ?_
  rw[gM]
  exact⟨y,_,_,⟨hy,rfl⟩,hp.tk 2⟩
end Go.Proofs
