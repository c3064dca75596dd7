/- The contract of the reference's AddExpr; under its stated conditions. -/
import Derived.Test.YtiepmliokblkjaaGreatBrf
import Derived.Test.YtiepmliokblkjaaGreatAxE
import Derived.Test.YtiepmliokblkjaaGreatMapLaw
import Derived.Test.YtiepmliokblkjaaGreatAxS
import Derived.Test.YtiepmliokblkjaaGreatAddLaw
set_option linter.all false
namespace Go.Proofs
open Go.Xw
set_option maxRecDepth 100000
set_option maxHeartbeats 2000000
attribute [local irreducible] ax aE
theorem zU (x:bf)(sa:Option Addr)(sc:Nat)(R:List (cL Int))(oa:Option Addr)(oc:Nat)(ops:List dJ)(wv:Int)(w0:World)(hX:fG w0 x)(hS:kL x.n)(hW:nq x.n)(hR:Rd w0 sa 1 jk R)(hQ:Lp w0 R)(hO:Rd w0 oa 3 kg ops)(fF:R.length<=1048576)(pU:∀i,i<R.length->(R.getD i default).ins.length<=1048576)(hRv:∀i,i<R.length->∀j,j<(R.getD i default).ins.length->da ((R.getD i default).ins.getD j default))(jL:ops.length<=1048576)(XL:∀i,i<ops.length->u5 (ops.getD i default))(hw:da wv):
  bN Tryz.prog 30 [x.v,.slice sa R.length sc,.slice oa ops.length oc,.int .i64 wv] w0 (fun v w'=>∃y b c,(y.n=(EE x.n (aJ R) ops wv).1/\v= .tuple ⟨[y.v,.slice b (EE x.n (aJ R) ops wv).2.length c]⟩)/\Hp w0 w' [dv y,rO 3 1 eI b c (EE x.n (aJ R) ops wv).2]):=by
 have pW:(aJ R).length=R.length:=fg R
 unfold da at hw
 refine eu Tryz.U5 ?_;intro C hp;skip;refine bP hp ?_;intro w b4 hx hp;refine az ?_;skip;refine bP hp ?_;intro w b8 hx hp;refine az ?_;(repeat(first|(refine ah ?_;refine aH hp ?_)|(refine bK ?_;refine gG hp ?_;intro w _ hx hp;refine az ?_)))
 by_cases aS:aj x.n
 ·have hc:=aS.count
  refine bQ hp Tryz.func77 ((eZ x _ hp.dR hS hW).tt (fi aS)) ?_;intro w hx hp;(repeat(refine aO ?_))
  (first|apply fx|apply cc)<;>intro h30 e<;>rw[e]<;>clear e;all_goals((repeat(refine aG ?_;first|refine aO ?_|refine ba ?_)))
  ·have gM:=sQ (n:=x.n) (sig:=aJ R) (ops:=ops) (w:=wv) (fun h=>by have:=h.Z8;omega)
   refine aN ?_;refine aH hp ?_
   refine cv Tryz.func80 (cm x _ hp.dR hS) ?_;rintro _ w ⟨y,⟨hy,rfl⟩,hq⟩;have hx:=hq.x;have hp:=hp.bJ hq;refine az ?_;refine aW hp ?_;intro w hp;refine az ?_;refine bh hp rfl ?_
   rw[gM]
   exact⟨y,_,_,⟨hy,rfl⟩,hp.tk 2⟩
  ·by_cases HM:fT ops R.length
   ·refine bQ hp Tryz.func78 (fA oa oc ops.length ops rfl R.length _ hp.rd jL XL) ?_;intro w hx hp;refine aO ?_
    rw[lv HM]
    (repeat(refine aO ?_))
    by_cases KD:1<=wv/\wv<=4
    ·refine bQ hp Tryz.func79 ((cC wv 1 4 _).yes KD) ?_;intro w hx hp;refine aO ?_
     refine aM ?_
     refine eg [1,2,3,4,8,10,11] (fun(i:Nat) (ng:Option Addr) (Lw:Nat)=>[(1,.slice sa R.length sc),(2,.slice oa ops.length oc),(3,.int .i64 wv),(4,.pointer (some ⟨b4,0,none⟩)),(8,.pointer (some ⟨b8,0,none⟩)),(10,.slice ng 0 Lw),(11,.int .i64 (i:Int))])
      (fun i ng Lw w'=>(i<=R.length/\∀j,j<i->(R.getD j default).ins.length<=4/\∀z,z∈(R.getD j default).ins->aD z (ag x.n))/\Hp w0 w' [rO 3 1 eI ng Lw ([]:List Int),rB b8 33 (aL Tryz.dY.zero),rB b4 33 x.cs]) (fun i _ _=>R.length-i) 0 _ _ rfl ⟨⟨by omega,fun j hj=>by omega⟩,hp⟩ ?_
     clear hp
     rintro i ng Lw w1 ⟨⟨hi,dK⟩,hp⟩ IH C
     refine bL ?_
     apply ae<;>intro bD
     ·have aF:i<R.length:=by omega
      have hgi:=pU i aF
      have Wz:=hRv i aF
      have Tj:=hQ.at_ aF
      refine aN ?_;refine bb hp ?_
      apply ae<;>intro h4
      ·have gM:=sQ (n:=x.n) (sig:=aJ R) (ops:=ops) (w:=wv) (fun h=>by
        have:=(h.sg _ (by rw[<-bk];exact aK (by omega):(R.getD i default).ins∈aJ R)).1
        omega)
       refine aN ?_;refine aH hp ?_
       refine cv Tryz.func80 (cm x _ hp.dR hS) ?_;rintro _ w ⟨y,⟨hy,rfl⟩,hq⟩;have hx:=hq.x;have hp:=hp.bJ hq;refine az ?_;refine aW hp ?_;intro w hp;refine az ?_;refine bh hp rfl ?_
       rw[gM]
       exact⟨y,_,_,⟨hy,rfl⟩,hp.tk 2⟩
      ·refine aM ?_
       refine aR [1,2,3,4,8,10,11,12] (fun(j:Nat)=>[(1,.slice sa R.length sc),(2,.slice oa ops.length oc),(3,.int .i64 wv),(4,.pointer (some ⟨b4,0,none⟩)),(8,.pointer (some ⟨b8,0,none⟩)),(10,.slice ng 0 Lw),(11,.int .i64 (i:Int)),(12,.int .i64 (j:Int))])
        (fun j w'=>(j<=(R.getD i default).ins.length/\∀q,q<j->aD ((R.getD i default).ins.getD q default) (ag x.n))/\Hp w0 w' [rO 3 1 eI ng Lw ([]:List Int),rB b8 33 (aL Tryz.dY.zero),rB b4 33 x.cs]) (fun j=>(R.getD i default).ins.length-j) 0 rfl ⟨⟨by omega,fun q hq=>by omega⟩,hp⟩ ?_
       clear hp
       rintro j w1 ⟨⟨hj,hq⟩,hp⟩ kF C
       refine bL ?_;refine bb hp ?_
       apply ae<;>intro jK
       ·have XM:j<(R.getD i default).ins.length:=by omega
        have eNC:cM x.n=ag x.n:=if_pos aS.size
        refine aN ?_
        refine j8 hp ?_;intro w hx hp;have hs:=hp;(repeat(refine ah ?_;first|refine dQ ?_|refine fo ?_))
        refine gq ?_
        refine oW Tryz.func82 (gZ x _) ?_;rintro _ w ⟨rfl,hx⟩;have hp:=hp.ext hx;have hs:=hs.ext hx;refine⟨fun _=>hs,?_⟩;refine fW ?_
        rw[eNC]
        refine oW Tryz.func81 (eV ((R.getD i default).ins.getD j default) (ag x.n) _ (Wz j XM)) ?_;rintro _ w ⟨rfl,hx⟩;have hp:=hp.ext hx;have hs:=hs.ext hx;refine⟨fun _=>hs,?_⟩;refine fW ?_
        skip
        by_cases hl:aD ((R.getD i default).ins.getD j default) (ag x.n)
        ·rw[decide_eq_true hl]
         refine aM ?_
         refine kF (j+1) _ _ _ (by omega) rfl ⟨⟨by omega,fun q Sb=> ?_⟩,hp⟩
         by_cases hqj:q=j
         ·subst hqj;exact hl
         ·exact hq q (by omega)
        ·have gM:=sQ (n:=x.n) (sig:=aJ R) (ops:=ops) (w:=wv) (fun h=>hl ((h.sg _ (by rw[<-bk];exact aK (by omega):(R.getD i default).ins∈aJ R)).2 _ (aK XM)))
         rw[decide_eq_false hl]
         refine aN ?_;refine aH hp ?_
         refine cv Tryz.func80 (cm x _ hp.dR hS) ?_;rintro _ w ⟨y,⟨hy,rfl⟩,hq⟩;have hx:=hq.x;have hp:=hp.bJ hq;refine az ?_;refine aW hp ?_;intro w hp;refine az ?_;refine bh hp rfl ?_
         rw[gM]
         exact⟨y,_,_,⟨hy,rfl⟩,hp.tk 2⟩
       ·refine aM ?_
        refine IH (i+1) ng Lw _ _ _ (by omega) rfl ⟨⟨by omega,fun q Sb=> ?_⟩,hp⟩
        by_cases hqi':q=i
        ·subst hqi'
         exact⟨by omega,f'.2 fun u hu=>hq u (by omega)⟩
        ·exact dK q (by omega)
     ·refine aM ?_
      obtain rfl:i=R.length:=by omega
      clear IH
      refine aR [1,2,3,4,8,10,13] (fun(j:Nat)=>[(1,.slice sa R.length sc),(2,.slice oa ops.length oc),(3,.int .i64 wv),(4,.pointer (some ⟨b4,0,none⟩)),(8,.pointer (some ⟨b8,0,none⟩)),(10,.slice ng 0 Lw),(13,.int .i64 (j:Int))])
       (fun j w'=>(j<=ops.length/\∀q,q<j->(ops.getD q default).kind≠1)/\Hp w0 w' [rO 3 1 eI ng Lw ([]:List Int),rB b8 33 (aL Tryz.dY.zero),rB b4 33 x.cs]) (fun j=>ops.length-j) 0 rfl ⟨⟨by omega,fun q hq=>by omega⟩,hp⟩ ?_
      clear hp
      rintro j w1 ⟨⟨hj,hq⟩,hp⟩ kF C
      refine bL ?_
      apply ae<;>intro jK
      ·have XM:j<ops.length:=by omega
       refine aN ?_;refine dg hp ?_
       apply ae<;>intro h1
       ·have gM:=sQ (n:=x.n) (sig:=aJ R) (ops:=ops) (w:=wv) (fun h=>h.par _ (aK XM) (by omega))
        refine aN ?_;refine aH hp ?_
        refine cv Tryz.func80 (cm x _ hp.dR hS) ?_;rintro _ w ⟨y,⟨hy,rfl⟩,hq⟩;have hx:=hq.x;have hp:=hp.bJ hq;refine az ?_;refine aW hp ?_;intro w hp;refine az ?_;refine bh hp rfl ?_
        rw[gM]
        exact⟨y,_,_,⟨hy,rfl⟩,hp.tk 2⟩
       ·refine aM ?_
        refine kF (j+1) _ _ _ (by omega) rfl ⟨⟨by omega,fun q Sb=> ?_⟩,hp⟩
        by_cases hqj:q=j
        ·subst hqj;exact h1
        ·exact hq q (by omega)
      ·refine aM ?_;refine aH hp ?_
       obtain rfl:j=ops.length:=by omega
       clear kF
       have ns:∀l,l∈aJ R->l.length<=4/\∀z,z∈l->aD z (ag x.n):=f'.2 fun u hu=>by rw[bk];exact dK u (by omega)
       have WY:Ms x.n (aJ R) ops wv:=⟨aS,by omega,by rw[pW];exact HM,f'.2 hq,KD,ns⟩
       obtain⟨ht1,ht2⟩:=kM WY.Z9 WY.par
       have NL:=Mt WY (fI ops (aJ R).length)
       obtain⟨wd,rfl⟩:=Int.eq_ofNat_of_zero_le (show 0<=wv by omega)
       obtain⟨t,I0⟩:∃t,t=fI ops (aJ R).length:=⟨_,rfl⟩
       rw[<-I0] at ht1 ht2 NL
       rw[Int.toNat_natCast] at NL
       have Ge:=WY.Z9.len
       have jb:=kU R sa sc wd (by omega) ops oa oc Ge (by omega) (fun i hi=>by have:=(dK i hi).1;omega) t [] [] (by simpa using ht1) (by rw[pW] at ht2;exact ht2) x _ hp.dR aS (fun l hl=>(ns l hl).2) hp.rd hp.rs hp.rd
       have CI:=cu bX (aJ R) wd t x.n
       obtain⟨r,hr⟩:∃r,r=dB bX (aJ R) wd t x.n:=⟨_,rfl⟩
       have gd:=db bj (sig:=aJ R) wd t aS (fun l hl z hz=> .inl ((ns l hl).2 z hz))
       rw[<-hr] at jb NL gd CI
       refine cv Tryz.func83 jb ?_
       rintro _ w ⟨y1,Lu,Lv,⟨Co,rfl⟩,hq'⟩
       obtain⟨L1,hp,hN1,EU⟩:=Hp.zu (K:=[_,_,_]) (L:=[]) hp hq'
       have hp:Hp w0 _ (_::_::_::_::L1):=hp
       clear hq' jb
       refine az ?_
       refine bP hp ?_;intro w Ce hx hp;refine az ?_;refine aW hp ?_;intro w hp;refine az ?_
       have NK:aj y1.n:=by rw[Co];exact gd.i
       refine bQ hp Tryz.func84 (FM Lu Lv wd r.2 CI _ hp.rd (by omega)) ?_;intro w hx hp
       rcases NL with⟨hb,he,oh⟩|⟨hb,hneg⟩
       ·have HY:=GD (n:=x.n) (sig:=aJ R) (ops:=ops) (w:=(wd:Int)) WY (by rw[<-I0];exact hb)
        rw[<-I0] at HY
        have er1:r.1=(BE (aJ R) (wd:Int) t x.n).1.1:=by rw[he]
        have er2:r.2=(BE (aJ R) (wd:Int) t x.n).2:=by rw[he]
        rw[HY,<-er1,<-er2]
        rw[decide_eq_true (fun z (hz:z∈r.2)=>oh z (by rw[<-er2];exact hz))]
        skip
        refine aM ?_;refine aH hp ?_
        refine cv Tryz.func80 (cm y1 _ hp.dR NK.S') ?_;rintro _ w ⟨y,⟨hy,rfl⟩,hq⟩;have hx:=hq.x;have hp:=hp.bJ hq;refine az ?_;refine aW hp ?_;intro w hp;refine az ?_;refine bh hp rfl ?_
        exact⟨y,Lu,Lv,⟨by rw[hy,Co],by rw[CI];rfl⟩,(hp.f2.f1).tk 2⟩
       ·have gM:=GF (n:=x.n) (sig:=aJ R) (ops:=ops) (w:=(wd:Int)) (by rw[<-I0];exact hb)
        rw[decide_eq_false (by intro hh;obtain⟨z,hz,TN⟩:=hneg;exact absurd (hh z hz) (by omega))]
        skip
        refine aN ?_;refine aH hp ?_
        refine cv Tryz.func80 (cm x _ hp.dR hS) ?_;rintro _ w ⟨y,⟨hy,rfl⟩,hq⟩;have hx:=hq.x;have hp:=hp.bJ hq;refine az ?_;refine aW hp ?_;intro w hp;refine az ?_;refine bh hp rfl ?_
        rw[gM]
        exact⟨y,ng,Lw,⟨hy,rfl⟩,(hp.f3.f1).tk 2⟩
    ·refine bQ hp Tryz.func79 ((cC wv 1 4 _).no KD) ?_;intro w hx hp;refine aO ?_
     have gM:=sQ (n:=x.n) (sig:=aJ R) (ops:=ops) (w:=wv) (fun h=>KD h.wid)
     refine aN ?_;refine aH hp ?_
     refine cv Tryz.func80 (cm x _ hp.dR hS) ?_;rintro _ w ⟨y,⟨hy,rfl⟩,hq⟩;have hx:=hq.x;have hp:=hp.bJ hq;refine az ?_;refine aW hp ?_;intro w hp;refine az ?_;refine bh hp rfl ?_
     rw[gM]
     exact⟨y,_,_,⟨hy,rfl⟩,hp.tk 2⟩
   ·refine bQ hp Tryz.func78 (fA oa oc ops.length ops rfl R.length _ hp.rd jL XL) ?_;intro w hx hp;refine aO ?_
    rw[gP HM]
    (repeat(refine ba ?_))
    have gM:=sQ (n:=x.n) (sig:=aJ R) (ops:=ops) (w:=wv) (fun h=>HM (by have:=h.Z9;rw[pW] at this;exact this))
    refine aN ?_;refine aH hp ?_
    refine cv Tryz.func80 (cm x _ hp.dR hS) ?_;rintro _ w ⟨y,⟨hy,rfl⟩,hq⟩;have hx:=hq.x;have hp:=hp.bJ hq;refine az ?_;refine aW hp ?_;intro w hp;refine az ?_;refine bh hp rfl ?_
    rw[gM]
    exact⟨y,_,_,⟨hy,rfl⟩,hp.tk 2⟩
 ·refine bQ hp Tryz.func77 ((eZ x _ hp.dR hS hW).ff (cY aS)) ?_;intro w hx hp;(repeat(refine ba ?_))
  have gM:=sQ (n:=x.n) (sig:=aJ R) (ops:=ops) (w:=wv) (fun h=>aS h.dR)
  refine aN ?_;refine aH hp ?_
  refine cv Tryz.func80 (cm x _ hp.dR hS) ?_;rintro _ w ⟨y,⟨hy,rfl⟩,hq⟩;have hx:=hq.x;have hp:=hp.bJ hq;refine az ?_;refine aW hp ?_;intro w hp;refine az ?_;refine bh hp rfl ?_
  rw[gM]
  exact⟨y,_,_,⟨hy,rfl⟩,hp.tk 2⟩
end Go.Proofs
