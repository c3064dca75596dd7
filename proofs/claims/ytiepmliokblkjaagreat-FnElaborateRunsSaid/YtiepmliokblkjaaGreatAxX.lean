/- The contract of the reference's AddExpr; under its stated conditions. -/
import Derived.Test.YtiepmliokblkjaaGreatBrf
import Derived.Test.YtiepmliokblkjaaGreatAxE
import Derived.Test.YtiepmliokblkjaaGreatMapLaw
import Derived.Test.YtiepmliokblkjaaGreatAxS
import Derived.Test.YtiepmliokblkjaaGreatAddLaw
set_option linter.all false
namespace Go.Proofs
open Go.Xw
set_option maxRecDepth 100000
set_option maxHeartbeats 2000000
attribute [local irreducible] ax aE
theorem zR (x:bf)(sa:Option Addr)(sc:Nat)(R:List (cL Int))(oa:Option Addr)(oc:Nat)(ops:List dK)(wv:Int)(w0:World)(hX:fG w0 x)(hS:kK x.n)(hW:nq x.n)(hR:Rd w0 sa 1 jl R)(hQ:Lk w0 R)(hO:Rd w0 oa 3 kf ops)(fF:R.length<=1048576)(pU:∀i,i<R.length->(R.getD i default).ins.length<=1048576)(hRv:∀i,i<R.length->∀j,j<(R.getD i default).ins.length->da ((R.getD i default).ins.getD j default))(jL:ops.length<=1048576)(XI:∀i,i<ops.length->u6 (ops.getD i default))(hw:da wv):
  bN Tryz.prog 30 [x.v,.slice sa R.length sc,.slice oa ops.length oc,.int .i64 wv] w0 (fun v w'=>∃y b c,(y.n=(EA x.n (aJ R) ops wv).1/\v= .tuple ⟨[y.v,.slice b (EA x.n (aJ R) ops wv).2.length c]⟩)/\Hp w0 w' [dv y,rO 3 1 eI b c (EA x.n (aJ R) ops wv).2]):=by
 have pW:(aJ R).length=R.length:=fh R
 unfold da at hw
 refine eu Tryz.U3 ?_;intro C hp;skip;refine bP hp ?_;intro w b4 hx hp;refine az ?_;skip;refine bP hp ?_;intro w b8 hx hp;refine az ?_;(repeat(first|(refine ah ?_;refine aI hp ?_)|(refine bK ?_;refine gG hp ?_;intro w _ hx hp;refine az ?_)))
 by_cases aS:aj x.n
 ·have hc:=aS.count
  refine bQ hp Tryz.func77 ((eZ x _ hp.dR hS hW).tt (fj aS)) ?_;intro w hx hp;(repeat(refine aO ?_))
  (first|apply fx|apply cf)<;>intro h30 e<;>rw[e]<;>clear e;all_goals((repeat(refine aG ?_;first|refine aO ?_|refine ba ?_)))
  ·have gM:=sQ (n:=x.n) (sig:=aJ R) (ops:=ops) (w:=wv) (fun h=>by have:=h.Z5;omega)
   refine aN ?_;refine aI hp ?_
   refine cy Tryz.func80 (cq x _ hp.dR hS) ?_;rintro _ w ⟨y,⟨hy,rfl⟩,hq⟩;have hx:=hq.x;have hp:=hp.bJ hq;refine az ?_;refine aW hp ?_;intro w hp;refine az ?_;refine bg hp rfl ?_
   rw[gM]
   exact⟨y,_,_,⟨hy,rfl⟩,hp.tk 2⟩
  ·by_cases HH:fU ops R.length
   ·refine bQ hp Tryz.func78 (fA oa oc ops.length ops rfl R.length _ hp.rd jL XI) ?_;intro w hx hp;refine aO ?_
    rw[lu HH]
    (repeat(refine aO ?_))
    by_cases Ky:1<=wv/\wv<=4
    ·refine bQ hp Tryz.func79 ((cE wv 1 4 _).yes Ky) ?_;intro w hx hp;refine aO ?_
     refine aM ?_
     refine eg [1,2,3,4,8,10,11] (fun(i:Nat) (ng:Option Addr) (Lr:Nat)=>[(1,.slice sa R.length sc),(2,.slice oa ops.length oc),(3,.int .i64 wv),(4,.pointer (some ⟨b4,0,none⟩)),(8,.pointer (some ⟨b8,0,none⟩)),(10,.slice ng 0 Lr),(11,.int .i64 (i:Int))])
      (fun i ng Lr w'=>(i<=R.length/\∀j,j<i->(R.getD j default).ins.length<=4/\∀z,z∈(R.getD j default).ins->aD z (ag x.n))/\Hp w0 w' [rO 3 1 eI ng Lr ([]:List Int),rB b8 33 (aL Tryz.dY.zero),rB b4 33 x.cs]) (fun i _ _=>R.length-i) 0 _ _ rfl ⟨⟨by omega,fun j hj=>by omega⟩,hp⟩ ?_
     clear hp
     rintro i ng Lr w1 ⟨⟨hi,dL⟩,hp⟩ IH C
     refine bL ?_
     apply ae<;>intro bD
     ·have aF:i<R.length:=by omega
      have hgi:=pU i aF
      have Wx:=hRv i aF
      have Tg:=hQ.at_ aF
      refine aN ?_;refine bb hp ?_
      apply ae<;>intro h4
      ·have gM:=sQ (n:=x.n) (sig:=aJ R) (ops:=ops) (w:=wv) (fun h=>by
        have:=(h.sg _ (by rw[<-bk];exact aK (by omega):(R.getD i default).ins∈aJ R)).1
        omega)
       refine aN ?_;refine aI hp ?_
       refine cy Tryz.func80 (cq x _ hp.dR hS) ?_;rintro _ w ⟨y,⟨hy,rfl⟩,hq⟩;have hx:=hq.x;have hp:=hp.bJ hq;refine az ?_;refine aW hp ?_;intro w hp;refine az ?_;refine bg hp rfl ?_
       rw[gM]
       exact⟨y,_,_,⟨hy,rfl⟩,hp.tk 2⟩
      ·refine aM ?_
       refine aR [1,2,3,4,8,10,11,12] (fun(j:Nat)=>[(1,.slice sa R.length sc),(2,.slice oa ops.length oc),(3,.int .i64 wv),(4,.pointer (some ⟨b4,0,none⟩)),(8,.pointer (some ⟨b8,0,none⟩)),(10,.slice ng 0 Lr),(11,.int .i64 (i:Int)),(12,.int .i64 (j:Int))])
        (fun j w'=>(j<=(R.getD i default).ins.length/\∀q,q<j->aD ((R.getD i default).ins.getD q default) (ag x.n))/\Hp w0 w' [rO 3 1 eI ng Lr ([]:List Int),rB b8 33 (aL Tryz.dY.zero),rB b4 33 x.cs]) (fun j=>(R.getD i default).ins.length-j) 0 rfl ⟨⟨by omega,fun q hq=>by omega⟩,hp⟩ ?_
       clear hp
       rintro j w1 ⟨⟨hj,hq⟩,hp⟩ kE C
       refine bL ?_;refine bb hp ?_
       apply ae<;>intro jK
       ·have XJ:j<(R.getD i default).ins.length:=by omega
        have eNC:cM x.n=ag x.n:=if_pos aS.size
        refine aN ?_
        refine j7 hp ?_;intro w hx hp;have hs:=hp;(repeat(refine ah ?_;first|refine dN ?_|refine fc ?_))
        refine gq ?_
        refine oW Tryz.func82 (gY x _) ?_;rintro _ w ⟨rfl,hx⟩;have hp:=hp.ext hx;have hs:=hs.ext hx;refine⟨fun _=>hs,?_⟩;refine fO ?_
        rw[eNC]
        refine oW Tryz.func81 (eV ((R.getD i default).ins.getD j default) (ag x.n) _ (Wx j XJ)) ?_;rintro _ w ⟨rfl,hx⟩;have hp:=hp.ext hx;have hs:=hs.ext hx;refine⟨fun _=>hs,?_⟩;refine fO ?_
        skip
        by_cases hl:aD ((R.getD i default).ins.getD j default) (ag x.n)
        ·rw[decide_eq_true hl]
         refine aM ?_
         refine kE (j+1) _ _ _ (by omega) rfl ⟨⟨by omega,fun q R8=> ?_⟩,hp⟩
         by_cases hqj:q=j
         ·subst hqj;exact hl
         ·exact hq q (by omega)
        ·have gM:=sQ (n:=x.n) (sig:=aJ R) (ops:=ops) (w:=wv) (fun h=>hl ((h.sg _ (by rw[<-bk];exact aK (by omega):(R.getD i default).ins∈aJ R)).2 _ (aK XJ)))
         rw[decide_eq_false hl]
         refine aN ?_;refine aI hp ?_
         refine cy Tryz.func80 (cq x _ hp.dR hS) ?_;rintro _ w ⟨y,⟨hy,rfl⟩,hq⟩;have hx:=hq.x;have hp:=hp.bJ hq;refine az ?_;refine aW hp ?_;intro w hp;refine az ?_;refine bg hp rfl ?_
         rw[gM]
         exact⟨y,_,_,⟨hy,rfl⟩,hp.tk 2⟩
       ·refine aM ?_
        refine IH (i+1) ng Lr _ _ _ (by omega) rfl ⟨⟨by omega,fun q R8=> ?_⟩,hp⟩
        by_cases hqi':q=i
        ·subst hqi'
         exact⟨by omega,f'.2 fun u hu=>hq u (by omega)⟩
        ·exact dL q (by omega)
     ·refine aM ?_
      obtain rfl:i=R.length:=by omega
      clear IH
      refine aR [1,2,3,4,8,10,13] (fun(j:Nat)=>[(1,.slice sa R.length sc),(2,.slice oa ops.length oc),(3,.int .i64 wv),(4,.pointer (some ⟨b4,0,none⟩)),(8,.pointer (some ⟨b8,0,none⟩)),(10,.slice ng 0 Lr),(13,.int .i64 (j:Int))])
       (fun j w'=>(j<=ops.length/\∀q,q<j->(ops.getD q default).kind≠1)/\Hp w0 w' [rO 3 1 eI ng Lr ([]:List Int),rB b8 33 (aL Tryz.dY.zero),rB b4 33 x.cs]) (fun j=>ops.length-j) 0 rfl ⟨⟨by omega,fun q hq=>by omega⟩,hp⟩ ?_
      clear hp
      rintro j w1 ⟨⟨hj,hq⟩,hp⟩ kE C
      refine bL ?_
      apply ae<;>intro jK
      ·have XJ:j<ops.length:=by omega
       refine aN ?_;refine dg hp ?_
       apply ae<;>intro h1
       ·have gM:=sQ (n:=x.n) (sig:=aJ R) (ops:=ops) (w:=wv) (fun h=>h.par _ (aK XJ) (by omega))
        refine aN ?_;refine aI hp ?_
        refine cy Tryz.func80 (cq x _ hp.dR hS) ?_;rintro _ w ⟨y,⟨hy,rfl⟩,hq⟩;have hx:=hq.x;have hp:=hp.bJ hq;refine az ?_;refine aW hp ?_;intro w hp;refine az ?_;refine bg hp rfl ?_
        rw[gM]
        exact⟨y,_,_,⟨hy,rfl⟩,hp.tk 2⟩
       ·refine aM ?_
        refine kE (j+1) _ _ _ (by omega) rfl ⟨⟨by omega,fun q R8=> ?_⟩,hp⟩
        by_cases hqj:q=j
        ·subst hqj;exact h1
        ·exact hq q (by omega)
      ·refine aM ?_;refine aI hp ?_
       obtain rfl:j=ops.length:=by omega
       clear kE
       have ns:∀l,l∈aJ R->l.length<=4/\∀z,z∈l->aD z (ag x.n):=f'.2 fun u hu=>by rw[bk];exact dL u (by omega)
       have WV:Mn x.n (aJ R) ops wv:=⟨aS,by omega,by rw[pW];exact HH,f'.2 hq,Ky,ns⟩
       obtain⟨ht1,ht2⟩:=kL WV.Z6 WV.par
       have NG:=Mo WV (fI ops (aJ R).length)
       obtain⟨wd,rfl⟩:=Int.eq_ofNat_of_zero_le (show 0<=wv by omega)
       obtain⟨t,IV⟩:∃t,t=fI ops (aJ R).length:=⟨_,rfl⟩
       rw[<-IV] at ht1 ht2 NG
       rw[Int.toNat_natCast] at NG
       have F8:=WV.Z6.len
       have jd:=kT R sa sc wd (by omega) ops oa oc F8 (by omega) (fun i hi=>by have:=(dL i hi).1;omega) t [] [] (by simpa using ht1) (by rw[pW] at ht2;exact ht2) x _ hp.dR aS (fun l hl=>(ns l hl).2) hp.rd hp.rs hp.rd
       have CH:=cv bY (aJ R) wd t x.n
       obtain⟨r,hr⟩:∃r,r=dD bY (aJ R) wd t x.n:=⟨_,rfl⟩
       have gd:=db bj (sig:=aJ R) wd t aS (fun l hl z hz=> .inl ((ns l hl).2 z hz))
       rw[<-hr] at jd NG gd CH
       refine cy Tryz.func83 jd ?_
       rintro _ w ⟨y1,Lp,Lq,⟨Cn,rfl⟩,hq'⟩
       obtain⟨L1,hp,hN1,EP⟩:=Hp.zp (K:=[_,_,_]) (L:=[]) hp hq'
       have hp:Hp w0 _ (_::_::_::_::L1):=hp
       clear hq' jd
       refine az ?_
       refine bP hp ?_;intro w Cd hx hp;refine az ?_;refine aW hp ?_;intro w hp;refine az ?_
       have NF:aj y1.n:=by rw[Cn];exact gd.i
       refine bQ hp Tryz.func84 (FH Lp Lq wd r.2 CH _ hp.rd (by omega)) ?_;intro w hx hp
       rcases NG with⟨hb,he,oh⟩|⟨hb,hneg⟩
       ·have HT:=Gy (n:=x.n) (sig:=aJ R) (ops:=ops) (w:=(wd:Int)) WV (by rw[<-IV];exact hb)
        rw[<-IV] at HT
        have er1:r.1=(BD (aJ R) (wd:Int) t x.n).1.1:=by rw[he]
        have er2:r.2=(BD (aJ R) (wd:Int) t x.n).2:=by rw[he]
        rw[HT,<-er1,<-er2]
        rw[decide_eq_true (fun z (hz:z∈r.2)=>oh z (by rw[<-er2];exact hz))]
        skip
        refine aM ?_;refine aI hp ?_
        refine cy Tryz.func80 (cq y1 _ hp.dR NF.S') ?_;rintro _ w ⟨y,⟨hy,rfl⟩,hq⟩;have hx:=hq.x;have hp:=hp.bJ hq;refine az ?_;refine aW hp ?_;intro w hp;refine az ?_;refine bg hp rfl ?_
        exact⟨y,Lp,Lq,⟨by rw[hy,Cn],by rw[CH];rfl⟩,(hp.f2.f1).tk 2⟩
       ·have gM:=Gz (n:=x.n) (sig:=aJ R) (ops:=ops) (w:=(wd:Int)) (by rw[<-IV];exact hb)
        rw[decide_eq_false (by intro hh;obtain⟨z,hz,TK⟩:=hneg;exact absurd (hh z hz) (by omega))]
        skip
        refine aN ?_;refine aI hp ?_
        refine cy Tryz.func80 (cq x _ hp.dR hS) ?_;rintro _ w ⟨y,⟨hy,rfl⟩,hq⟩;have hx:=hq.x;have hp:=hp.bJ hq;refine az ?_;refine aW hp ?_;intro w hp;refine az ?_;refine bg hp rfl ?_
        rw[gM]
        exact⟨y,ng,Lr,⟨hy,rfl⟩,(hp.f3.f1).tk 2⟩
    ·refine bQ hp Tryz.func79 ((cE wv 1 4 _).no Ky) ?_;intro w hx hp;refine aO ?_
     have gM:=sQ (n:=x.n) (sig:=aJ R) (ops:=ops) (w:=wv) (fun h=>Ky h.wid)
     refine aN ?_;refine aI hp ?_
     refine cy Tryz.func80 (cq x _ hp.dR hS) ?_;rintro _ w ⟨y,⟨hy,rfl⟩,hq⟩;have hx:=hq.x;have hp:=hp.bJ hq;refine az ?_;refine aW hp ?_;intro w hp;refine az ?_;refine bg hp rfl ?_
     rw[gM]
     exact⟨y,_,_,⟨hy,rfl⟩,hp.tk 2⟩
   ·refine bQ hp Tryz.func78 (fA oa oc ops.length ops rfl R.length _ hp.rd jL XI) ?_;intro w hx hp;refine aO ?_
    rw[gP HH]
    (repeat(refine ba ?_))
    have gM:=sQ (n:=x.n) (sig:=aJ R) (ops:=ops) (w:=wv) (fun h=>HH (by have:=h.Z6;rw[pW] at this;exact this))
    refine aN ?_;refine aI hp ?_
    refine cy Tryz.func80 (cq x _ hp.dR hS) ?_;rintro _ w ⟨y,⟨hy,rfl⟩,hq⟩;have hx:=hq.x;have hp:=hp.bJ hq;refine az ?_;refine aW hp ?_;intro w hp;refine az ?_;refine bg hp rfl ?_
    rw[gM]
    exact⟨y,_,_,⟨hy,rfl⟩,hp.tk 2⟩
 ·refine bQ hp Tryz.func77 ((eZ x _ hp.dR hS hW).ff (cY aS)) ?_;intro w hx hp;(repeat(refine ba ?_))
  have gM:=sQ (n:=x.n) (sig:=aJ R) (ops:=ops) (w:=wv) (fun h=>aS h.dR)
  refine aN ?_;refine aI hp ?_
  refine cy Tryz.func80 (cq x _ hp.dR hS) ?_;rintro _ w ⟨y,⟨hy,rfl⟩,hq⟩;have hx:=hq.x;have hp:=hp.bJ hq;refine az ?_;refine aW hp ?_;intro w hp;refine az ?_;refine bg hp rfl ?_
  rw[gM]
  exact⟨y,_,_,⟨hy,rfl⟩,hp.tk 2⟩
end Go.Proofs
