/- Texts that belong together; each under its stated conditions. -/
import Derived.Test.YtiepmliokblkjaaGreatBrf
import Derived.Test.YtiepmliokblkjaaGreatExprLaw
import Derived.Test.YtiepmliokblkjaaGreatProg
import Derived.Test.YtiepmliokblkjaaGreatNet
import Derived.KernelRfl
import Derived.ProofKit
import Derived.Deep.Slices
import Derived.Deep.Fields
import Derived.ChangeSame
import Derived.ChangeArms
import Derived.ChangeShapes
import Derived.Test.YtiepmliokblkjaaGreatLists
import Derived.Test.YtiepmliokblkjaaGreatMapLaw
import Derived.Test.YtiepmliokblkjaaGreatAddLaw
set_option linter.all false
section
namespace Go.Proofs
open Go.Xw
set_option maxRecDepth 100000
set_option maxHeartbeats 1000000
attribute [local irreducible] ax aE
theorem Kz (y:bf)(p:Nat)(u v:Int){w0 w:World}{L:List bh}(hp:Hp w0 w (rB p 33 y.cs::rO 120 2 gh y.aa y.ac y.af::L))(aS:aj y.n)(hu:aD u (ag y.n))(hv:aD v (ag y.n)):
  bN Tryz.prog 154 [.pointer (some ⟨p,0,none⟩),.int .i64 u,.int .i64 v] w (fun r w'=>∃aa ac,r= .int .i64 (de y.n u v).2/\Hp w0 w' (rB p 33 (y.wA aa ac (de y.n u v).1.af).cs::rO 120 2 gh aa ac (de y.n u v).1.af::L)):=by
 have Xi:=aS.count
 obtain⟨a,ea⟩:∃a,a=u:=⟨_,rfl⟩
 obtain⟨b,eb⟩:∃b,b=cS v:=⟨_,rfl⟩
 obtain⟨c,ec⟩:∃c,c=cS u:=⟨_,rfl⟩
 obtain⟨d,ed⟩:∃d,d=v:=⟨_,rfl⟩
 have e:de y.n u v=eE y.n a b c d:=by rw[ea,eb,ec,ed];rfl
 have ha:aD a (ag y.n):=by rw[ea];exact hu
 have hb:aD b (ag y.n):=by rw[eb];exact cN hv (by omega)
 have Wo:aD c (ag y.n):=by rw[ec];exact cN hu (by omega)
 have hd:aD d (ag y.n):=by rw[ed];exact hv
 have eb':bits .xor .i64 v 1=b:=eb.symm
 have ec':bits .xor .i64 a 1=c:=by rw[ea];exact ec.symm
 rw[e]
 have hc:=aS.count
 have hs:=aS.jR
 have E':y.n.af=y.af:=rfl
 have gA:=dw aS ha hb
 have gB:=dw gA.ok (Wo.mono gA.nodes) (hd.mono gA.nodes)
 have gAb:=gA.b
 have gBb:=gB.b
 have gAc:=gA.ok.count
 have gBc:=gB.ok.count
 have gAs:=gA.ok.size
 have gBs:=gB.ok.size
 unfold fT at gAs gBs
 have e0:eE y.n a b c d=if(ay y.n a b).2<0 then((ay y.n a b).1,-1)
   else if(ay (ay y.n a b).1 c d).2<0 then((ay (ay y.n a b).1 c d).1,-1)
   else cF (ay (ay y.n a b).1 c d).1 (ay y.n a b).2 (ay (ay y.n a b).1 c d).2:=rfl
 have On:=ha
 have rN:=hb
 have hc':=Wo
 have hd':=hd
 unfold aD at On rN hc' hd'
 refine vJ Tryz.QR ?_;intro C
 refine gq ?_
 rw[eb',<-ea]
 refine cy Tryz.func106 (mK y p a b hp aS.b (by omega) (by omega) (by omega)) ?_;rintro _ w ⟨aa,ac,rfl,hp⟩;refine az ?_
 have Se:=bf.Mj y aa ac gA.eq
 apply ae<;>intro h0
 ·refine aN ?_;refine aq ?_
  rw[e0,if_pos h0]
  exact⟨aa,ac,rfl,hp⟩
 ·refine aM ?_
  refine gq ?_
  rw[ec',<-ed]
  refine cy Tryz.func106 (mK (y.wA aa ac (ay y.n a b).1.af) p c d hp (by have:=gA.ok;rw[<-Se] at this;exact this.b) (by show(ay y.n a b).1.af.length<=_;omega) (by omega) (by omega)) ?_;rintro _ w ⟨Nd,Nf,rfl,hp⟩;refine az ?_
  rw[Se] at hp⊢
  skip
  have Sf:((y.wA aa ac (ay y.n a b).1.af).wA Nd Nf (ay (ay y.n a b).1 c d).1.af).n=(ay (ay y.n a b).1 c d).1:=bf.Mj _ Nd Nf (by rw[Se];exact gB.eq)
  apply ae<;>intro h1
  ·refine aN ?_;refine aq ?_
   rw[e0,if_neg h0,if_pos h1]
   exact⟨Nd,Nf,rfl,hp⟩
  ·refine aM ?_
   have Cf:=gB.ok
   have vL:=(gA.aD h0).mono gB.nodes
   have sb:=gB.aD h1
   rw[<-Sf] at Cf vL sb
   refine cy Tryz.func153 (By ((y.wA aa ac (ay y.n a b).1.af).wA Nd Nf (ay (ay y.n a b).1 c d).1.af) p (ay y.n a b).2 _ hp Cf vL (by rw[Sf] at sb⊢;exact sb)) ?_;rintro _ w ⟨aa3,ac3,rfl,hp⟩;refine az ?_;refine aq ?_
   rw[e0,if_neg h0,if_neg h1]
   rw[Sf] at hp⊢
   skip
   exact⟨aa3,ac3,rfl,hp⟩
theorem KA (y:bf)(p:Nat)(s u v:Int){w0 w:World}{L:List bh}(hp:Hp w0 w (rB p 33 y.cs::rO 120 2 gh y.aa y.ac y.af::L))(aS:aj y.n)(lQ:aD s (ag y.n))(hu:aD u (ag y.n))(hv:aD v (ag y.n)):
  bN Tryz.prog 156 [.pointer (some ⟨p,0,none⟩),.int .i64 s,.int .i64 u,.int .i64 v] w (fun r w'=>∃aa ac,r= .int .i64 (dy y.n s u v).2/\Hp w0 w' (rB p 33 (y.wA aa ac (dy y.n s u v).1.af).cs::rO 120 2 gh aa ac (dy y.n s u v).1.af::L)):=by
 have Xi:=aS.count
 obtain⟨a,ea⟩:∃a,a=s:=⟨_,rfl⟩
 obtain⟨b,eb⟩:∃b,b=u:=⟨_,rfl⟩
 obtain⟨c,ec⟩:∃c,c=cS s:=⟨_,rfl⟩
 obtain⟨d,ed⟩:∃d,d=v:=⟨_,rfl⟩
 have e:dy y.n s u v=eE y.n a b c d:=by rw[ea,eb,ec,ed];rfl
 have ha:aD a (ag y.n):=by rw[ea];exact lQ
 have hb:aD b (ag y.n):=by rw[eb];exact hu
 have Wo:aD c (ag y.n):=by rw[ec];exact cN lQ (by omega)
 have hd:aD d (ag y.n):=by rw[ed];exact hv
 have ec':bits .xor .i64 a 1=c:=by rw[ea];exact ec.symm
 rw[e]
 have hc:=aS.count
 have hs:=aS.jR
 have E':y.n.af=y.af:=rfl
 have gA:=dw aS ha hb
 have gB:=dw gA.ok (Wo.mono gA.nodes) (hd.mono gA.nodes)
 have gAb:=gA.b
 have gBb:=gB.b
 have gAc:=gA.ok.count
 have gBc:=gB.ok.count
 have gAs:=gA.ok.size
 have gBs:=gB.ok.size
 unfold fT at gAs gBs
 have e0:eE y.n a b c d=if(ay y.n a b).2<0 then((ay y.n a b).1,-1)
   else if(ay (ay y.n a b).1 c d).2<0 then((ay (ay y.n a b).1 c d).1,-1)
   else cF (ay (ay y.n a b).1 c d).1 (ay y.n a b).2 (ay (ay y.n a b).1 c d).2:=rfl
 have On:=ha
 have rN:=hb
 have hc':=Wo
 have hd':=hd
 unfold aD at On rN hc' hd'
 refine vJ Tryz.QT ?_;intro C
 refine gq ?_
 rw[<-ea,<-eb]
 refine cy Tryz.func106 (mK y p a b hp aS.b (by omega) (by omega) (by omega)) ?_;rintro _ w ⟨aa,ac,rfl,hp⟩;refine az ?_
 have Se:=bf.Mj y aa ac gA.eq
 apply ae<;>intro h0
 ·refine aN ?_;refine aq ?_
  rw[e0,if_pos h0]
  exact⟨aa,ac,rfl,hp⟩
 ·refine aM ?_
  refine gq ?_
  rw[ec',<-ed]
  refine cy Tryz.func106 (mK (y.wA aa ac (ay y.n a b).1.af) p c d hp (by have:=gA.ok;rw[<-Se] at this;exact this.b) (by show(ay y.n a b).1.af.length<=_;omega) (by omega) (by omega)) ?_;rintro _ w ⟨Nd,Nf,rfl,hp⟩;refine az ?_
  rw[Se] at hp⊢
  skip
  have Sf:((y.wA aa ac (ay y.n a b).1.af).wA Nd Nf (ay (ay y.n a b).1 c d).1.af).n=(ay (ay y.n a b).1 c d).1:=bf.Mj _ Nd Nf (by rw[Se];exact gB.eq)
  apply ae<;>intro h1
  ·refine aN ?_;refine aq ?_
   rw[e0,if_neg h0,if_pos h1]
   exact⟨Nd,Nf,rfl,hp⟩
  ·refine aM ?_
   have Cf:=gB.ok
   have vL:=(gA.aD h0).mono gB.nodes
   have sb:=gB.aD h1
   rw[<-Sf] at Cf vL sb
   refine cy Tryz.func153 (By ((y.wA aa ac (ay y.n a b).1.af).wA Nd Nf (ay (ay y.n a b).1 c d).1.af) p (ay y.n a b).2 _ hp Cf vL (by rw[Sf] at sb⊢;exact sb)) ?_;rintro _ w ⟨aa3,ac3,rfl,hp⟩;refine az ?_;refine aq ?_
   rw[e0,if_neg h0,if_neg h1]
   rw[Sf] at hp⊢
   skip
   exact⟨aa3,ac3,rfl,hp⟩
theorem Sg {n:ao}{lits:List Int}{r:ao×Int}(h:nq n)(g:aj n->(∀l,l∈lits->aD l (ag n))->iv n r):nq (dG n lits r).1:=by
 by_cases hh:aj n/\∀l,l∈lits->aD l (ag n)
 ·by_cases h2:r.2<0
  ·rw[gZ hh h2];exact h
  ·rw[dS hh h2];exact(g hh.1 hh.2).ok.W
 ·rw[ga hh];exact h
theorem wZ {n:ao}(h:nq n)(a b:Int):nq (dG n [a,b] (ay n a b)).1:=Sg h fun h hl=>dw h (hl a (by simp)) (hl b (by simp))
theorem Cg {n:ao}{a b:Int}:da (dG n [a,b] (ay n a b)).2:=by
 by_cases hh:aj n/\∀l,l∈[a,b]->aD l (ag n)
 ·have g:=(dw hh.1 (hh.2 a (by simp)) (hh.2 b (by simp))).b
  by_cases h2:(ay n a b).2<0
  ·rw[gZ hh h2];unfold da;dsimp only;omega
  ·rw[dS hh h2];unfold da;omega
 ·rw[ga hh];unfold da;dsimp only;omega
noncomputable def vX (n m:ao)(p q:Int):ao×Int:=if(dG m [p,q] (cF m p q)).2<0 then(n,-1) else dG m [p,q] (cF m p q)
theorem y6 {n m:ao}{p q:Int}(h:p<0\/q<0):vX n m p q=(n,-1):=by
 unfold vX
 rw[ga (fun hh=>by have h1:=cO.1 hh.2;unfold aD at h1;omega)]
 rfl
noncomputable def D2 (n:ao)(a b c d:Int):ao×Int:=
 vX n (dG (dG n [a,b] (ay n a b)).1 [c,d] (ay (dG n [a,b] (ay n a b)).1 c d)).1 (dG n [a,b] (ay n a b)).2 (dG (dG n [a,b] (ay n a b)).1 [c,d] (ay (dG n [a,b] (ay n a b)).1 c d)).2
theorem D3 {n:ao}{a b c d:Int}(aS:aj n)(ha:aD a (ag n))(hb:aD b (ag n))(hc:aD c (ag n))(hd:aD d (ag n)):D2 n a b c d=E8 n (eE n a b c d):=by
 have gA:=dw aS ha hb
 have gB:=dw gA.ok (hc.mono gA.nodes) (hd.mono gA.nodes)
 unfold D2
 by_cases h0:(ay n a b).2<0
 ·rw[gZ ⟨aS,cO.2 ⟨ha,hb⟩⟩ h0,y6 (.inl (by dsimp only;omega))]
  unfold eE E8
  rw[if_pos h0];rfl
 ·rw[dS ⟨aS,cO.2 ⟨ha,hb⟩⟩ h0]
  by_cases h1:(ay (ay n a b).1 c d).2<0
  ·rw[gZ ⟨gA.ok,cO.2 ⟨hc.mono gA.nodes,hd.mono gA.nodes⟩⟩ h1,y6 (.inr (by dsimp only;omega))]
   unfold eE E8
   rw[if_neg h0,if_pos h1];rfl
  ·rw[dS ⟨gA.ok,cO.2 ⟨hc.mono gA.nodes,hd.mono gA.nodes⟩⟩ h1]
   unfold eE E8 vX
   rw[if_neg h0,if_neg h1]
   have hv:aj (ay (ay n a b).1 c d).1/\∀l,l∈[(ay n a b).2,(ay (ay n a b).1 c d).2]->aD l (ag (ay (ay n a b).1 c d).1):=⟨gB.ok,cO.2 ⟨(gA.aD h0).mono gB.nodes,gB.aD h1⟩⟩
   by_cases h2:(cF (ay (ay n a b).1 c d).1 (ay n a b).2 (ay (ay n a b).1 c d).2).2<0
   ·rw[gZ hv h2,if_pos h2];rfl
   ·rw[dS hv h2,if_neg h2]
theorem Ng {n:ao}{a b c d:Int}(h:¬(aj n/\aD a (ag n)/\aD b (ag n))):D2 n a b c d=(n,-1):=by
 unfold D2
 rw[ga (fun hh=>h ⟨hh.1,cO.1 hh.2⟩)]
 exact y6 (.inl (by dsimp only;omega))
theorem FF {n:ao}{a b:Int}(ha:da a)(hb:da b):dG n [a,b] (de n a b)=D2 n a (fb b) (fb a) b:=by
 by_cases hh:aj n/\∀l,l∈[a,b]->aD l (ag n)
 ·obtain⟨la,lb⟩:=cO.1 hh.2
  have hc:=hh.1.count
  rw[mL la,mL lb,D3 hh.1 la (cN lb (by omega)) (cN la (by omega)) lb]
  unfold dG de
  rw[if_pos hh]
 ·rw[ga hh,Ng (fun h=>hh ⟨h.1,cO.2 ⟨h.2.1,(xT hb).1 h.2.2⟩⟩)]
theorem FG {n:ao}{s a b:Int}(aS:aj n)(hs:aD s (ag n))(ha:aD a (ag n))(hb:aD b (ag n)):dG n [s,a,b] (dy n s a b)=D2 n s a (fb s) b:=by
 have hc:=aS.count
 rw[mL hs,D3 aS hs ha (cN hs (by omega)) hb]
 unfold dG dy
 rw[if_pos ⟨aS,by simp[hs,ha,hb]⟩]
theorem AO (x m:bf)(p q:Int)(w0:World)(hX:fG w0 x)(hM:fG w0 m)(hS:kK x.n)(hSm:kK m.n)(hWm:nq m.n)(hp0:da p)(Ik:da q):
  bN Tryz.prog 175 [x.v,m.v,.int .i64 p,.int .i64 q] w0 (fun v w=>∃y,(y.n=(vX x.n m.n p q).1/\v= .tuple ⟨[y.v,.int .i64 (vX x.n m.n p q).2]⟩)/\Hp w0 w [dv y]):=by
 refine eu Tryz.Rf ?_;intro C hp;skip;refine bP hp ?_;intro w b4 hx hp;refine az ?_;skip;refine bP hp ?_;intro w b5 hx hp;refine az ?_;skip;refine bP hp ?_;intro w b8 hx hp;refine az ?_;refine aI hp ?_
 refine cy Tryz.func144 (nD m p q _ hp.dR hSm hWm hp0 Ik) ?_;rintro _ w ⟨y,⟨hy,rfl⟩,hq⟩;have hx:=hq.x;have hp:=hp.bJ hq;refine az ?_
 refine bP hp ?_;intro w ng hx hp;refine az ?_;refine aW hp ?_;intro w hp;refine az ?_
 apply ae<;>intro h0
 ·refine aN ?_;refine aI hp ?_
  refine cy Tryz.func80 (cq x _ hp.dR hS) ?_;rintro _ w ⟨z,⟨hz,rfl⟩,hq⟩;have hx:=hq.x;have hp:=hp.bJ hq;refine az ?_;refine aW hp ?_;intro w hp;refine az ?_;refine bg hp rfl ?_
  unfold vX
  rw[if_pos h0]
  exact⟨z,⟨hz,rfl⟩,hp.sub (by simp)⟩
 ·refine aM ?_;(repeat(first|(refine ah ?_;refine aI hp ?_)|(refine aH ?_;refine aW hp ?_;intro w hp;refine az ?_)|(refine dA ?_;refine bg hp rfl ?_)))
  unfold vX
  rw[if_neg h0]
  exact⟨y,⟨hy,rfl⟩,hp.sub (by simp)⟩
theorem ks (x:bf)(a b:Int)(w0:World)(hX:fG w0 x)(hS:kK x.n)(hW:nq x.n)(ha:da a)(hb:da b):
  bN Tryz.prog 174 [x.v,.int .i64 a,.int .i64 b] w0 (fun v w=>∃y,(y.n=(dG x.n [a,b] (de x.n a b)).1/\v= .tuple ⟨[y.v,.int .i64 (dG x.n [a,b] (de x.n a b)).2]⟩)/\Hp w0 w [dv y]):=by
 rw[FF ha hb]
 refine eu Tryz.Re ?_;intro C hp;skip;refine bP hp ?_;intro w b3 hx hp;refine az ?_;skip;refine bP hp ?_;intro w b6 hx hp;refine az ?_
 refine fR hp ?_;refine fy ?_
 refine j8 Tryz.func172 (fun F w hp=> ?_);refine bN.mono (mM b _) ?_;rintro _ w ⟨rfl,hx⟩;have hp:=hp.ext hx;refine⟨fun _=>hp.sub (by(repeat(first|exact List.sublist_append_left _ _|apply List.Sublist.cons))),_,hp,?_⟩;clear hp;refine cX ?_
 refine j8 Tryz.func86 (fun F w hp=> ?_);refine bN.mono (eF x a (fb b) _ hp.dR hS hW ha (xS hb)) ?_;rintro _ w ⟨y,⟨hy,rfl⟩,hq⟩;have hp:=hp.eU hq;refine⟨fun _=>hp.sub (by(repeat(first|exact List.sublist_append_left _ _|apply List.Sublist.cons))),_,hp,?_⟩;clear hp;refine cX ?_
 (first|refine oq ?_|refine iS rfl ?_);intro b8;refine cX ?_;refine eO rfl rfl rfl rfl (by kernel_rfl) ?_;refine cX ?_
 refine dc ?_;intro w hp C;refine bL ?_
 have Wp:kK y.n:=by rw[hy];exact wK hS _ _
 have Wq:nq y.n:=by rw[hy];exact wZ hW _ _
 refine fR hp ?_;refine fy ?_
 refine j8 Tryz.func172 (fun F w hp=> ?_);refine bN.mono (mM a _) ?_;rintro _ w ⟨rfl,hx⟩;have hp:=hp.ext hx;refine⟨fun _=>hp.sub (by(repeat(first|exact List.sublist_append_left _ _|apply List.Sublist.cons))),_,hp,?_⟩;clear hp;refine cX ?_
 refine j8 Tryz.func86 (fun F w hp=> ?_);refine bN.mono (eF y (fb a) b _ (sN (hp.pre.take (dv y))) Wp Wq (xS ha) hb) ?_;rintro _ w ⟨z,⟨hz,rfl⟩,hq⟩;have hp:=hp.eU hq;refine⟨fun _=>hp.sub (by(repeat(first|exact List.sublist_append_left _ _|apply List.Sublist.cons))),_,hp,?_⟩;clear hp;refine cX ?_;refine eO rfl rfl rfl rfl (by kernel_rfl) ?_;refine cX ?_
 skip
 refine dc ?_;intro w hp C;refine bL ?_;(repeat(refine aI hp ?_))
 have hSz:kK z.n:=by rw[hz];exact wK Wp _ _
 have hWz:nq z.n:=by rw[hz];exact wZ Wq _ _
 refine cy Tryz.func175 (AO x z _ _ _ hp.dR hp.dR hS hSz hWz Cg Cg) ?_;rintro _ w ⟨u,⟨hu,rfl⟩,hq⟩;have hx:=hq.x;have hp:=hp.bJ hq;refine az ?_;refine aW hp ?_;intro w hp;refine az ?_;refine bg hp rfl ?_
 unfold D2
 rw[<-hy,<-hz]
 exact⟨u,⟨hu,rfl⟩,hp.sub (by simp)⟩
theorem uk (x:bf)(s a b:Int)(w0:World)(hX:fG w0 x)(hS:kK x.n)(hW:nq x.n)(hs:da s)(ha:da a)(hb:da b):
  bN Tryz.prog 145 [x.v,.int .i64 s,.int .i64 a,.int .i64 b] w0 (fun v w=>∃y,(y.n=(dG x.n [s,a,b] (dy x.n s a b)).1/\v= .tuple ⟨[y.v,.int .i64 (dG x.n [s,a,b] (dy x.n s a b)).2]⟩)/\Hp w0 w [dv y]):=by
 refine eu Tryz.QK ?_;intro C hp;skip;refine bP hp ?_;intro w b4 hx hp;refine az ?_;skip;refine bP hp ?_;intro w b8 hx hp;refine az ?_;refine aI hp ?_
 refine bQ hp Tryz.func82 (gY x _) ?_;intro w hx hp;refine aI hp ?_
 by_cases aS:aj x.n
 ·rw[show cM x.n=ag x.n from if_pos aS.size]
  refine bQ hp Tryz.func77 ((eZ x _ hp.dR hS hW).tt (fj aS)) ?_;intro w hx hp;(repeat(refine aO ?_))
  by_cases ls:aD s (ag x.n)
  ·refine bQ hp Tryz.func81 ((eV s _ _ hs).yes ls) ?_;intro w hx hp;(repeat(refine aO ?_))
   by_cases la:aD a (ag x.n)
   ·refine bQ hp Tryz.func81 ((eV a _ _ ha).yes la) ?_;intro w hx hp;(repeat(refine aO ?_))
    by_cases lb:aD b (ag x.n)
    ·refine bQ hp Tryz.func81 ((eV b _ _ hb).yes lb) ?_;intro w hx hp;refine aO ?_
     rw[FG aS ls la lb]
     refine aM ?_;refine aI hp ?_
     refine cy Tryz.func86 (eF x s a _ hp.dR hS hW hs ha) ?_;rintro _ w ⟨y,⟨hy,rfl⟩,hq⟩;have hx:=hq.x;have hp:=hp.bJ hq;refine az ?_
     refine bP hp ?_;intro w wX hx hp;refine az ?_;refine aW hp ?_;intro w hp;refine az ?_
     have Wp:kK y.n:=by rw[hy];exact wK hS _ _
     have Wq:nq y.n:=by rw[hy];exact wZ hW _ _
     refine fR hp ?_;refine fy ?_
     refine j8 Tryz.func172 (fun F w hp=> ?_);refine bN.mono (mM s _) ?_;rintro _ w ⟨rfl,hx⟩;have hp:=hp.ext hx;refine⟨fun _=>hp.sub (by(repeat(first|exact List.sublist_append_left _ _|apply List.Sublist.cons))),_,hp,?_⟩;clear hp;refine cX ?_
     refine j8 Tryz.func86 (fun F w hp=> ?_);refine bN.mono (eF y (fb s) b _ (sN (hp.pre.take (dv y))) Wp Wq (xS hs) hb) ?_;rintro _ w ⟨z,⟨hz,rfl⟩,hq⟩;have hp:=hp.eU hq;refine⟨fun _=>hp.sub (by(repeat(first|exact List.sublist_append_left _ _|apply List.Sublist.cons))),_,hp,?_⟩;clear hp;refine cX ?_;refine eO rfl rfl rfl rfl (by kernel_rfl) ?_;refine cX ?_
     skip
     refine dc ?_;intro w hp C;refine bL ?_;(repeat(refine aI hp ?_))
     have hSz:kK z.n:=by rw[hz];exact wK Wp _ _
     have hWz:nq z.n:=by rw[hz];exact wZ Wq _ _
     refine cy Tryz.func175 (AO x z _ _ _ hp.dR hp.dR hS hSz hWz Cg Cg) ?_;rintro _ w ⟨u,⟨hu,rfl⟩,hq⟩;have hx:=hq.x;have hp:=hp.bJ hq;refine az ?_;refine aW hp ?_;intro w hp;refine az ?_;refine bg hp rfl ?_
     unfold D2
     rw[<-hy,<-hz]
     exact⟨u,⟨hu,rfl⟩,hp.sub (by simp)⟩
    ·refine bQ hp Tryz.func81 ((eV b _ _ hb).no lb) ?_;intro w hx hp;refine aO ?_
     have cQ:¬(aj x.n/\aD s (ag x.n)/\aD a (ag x.n)/\aD b (ag x.n)):=fun h=>lb h.2.2.2
     have gM:¬(aj x.n/\∀l,l∈[s,a,b]->aD l (ag x.n)):=fun h=>cQ ⟨h.1,h.2 s (by simp),h.2 a (by simp),h.2 b (by simp)⟩
     refine aN ?_;refine aI hp ?_
     refine cy Tryz.func80 (cq x _ hp.dR hS) ?_;rintro _ w ⟨z,⟨hz,rfl⟩,hq⟩;have hx:=hq.x;have hp:=hp.bJ hq;refine az ?_;refine aW hp ?_;intro w hp;refine az ?_;refine bg hp rfl ?_
     rw[ga gM]
     exact⟨z,⟨hz,rfl⟩,hp.sub (by simp)⟩
   ·refine bQ hp Tryz.func81 ((eV a _ _ ha).no la) ?_;intro w hx hp;(repeat(refine aG ?_;first|refine aO ?_|refine ba ?_))
    have cQ:¬(aj x.n/\aD s (ag x.n)/\aD a (ag x.n)/\aD b (ag x.n)):=fun h=>la h.2.2.1
    have gM:¬(aj x.n/\∀l,l∈[s,a,b]->aD l (ag x.n)):=fun h=>cQ ⟨h.1,h.2 s (by simp),h.2 a (by simp),h.2 b (by simp)⟩
    refine aN ?_;refine aI hp ?_
    refine cy Tryz.func80 (cq x _ hp.dR hS) ?_;rintro _ w ⟨z,⟨hz,rfl⟩,hq⟩;have hx:=hq.x;have hp:=hp.bJ hq;refine az ?_;refine aW hp ?_;intro w hp;refine az ?_;refine bg hp rfl ?_
    rw[ga gM]
    exact⟨z,⟨hz,rfl⟩,hp.sub (by simp)⟩
  ·refine bQ hp Tryz.func81 ((eV s _ _ hs).no ls) ?_;intro w hx hp;(repeat(refine aG ?_;first|refine aO ?_|refine ba ?_))
   have cQ:¬(aj x.n/\aD s (ag x.n)/\aD a (ag x.n)/\aD b (ag x.n)):=fun h=>ls h.2.1
   have gM:¬(aj x.n/\∀l,l∈[s,a,b]->aD l (ag x.n)):=fun h=>cQ ⟨h.1,h.2 s (by simp),h.2 a (by simp),h.2 b (by simp)⟩
   refine aN ?_;refine aI hp ?_
   refine cy Tryz.func80 (cq x _ hp.dR hS) ?_;rintro _ w ⟨z,⟨hz,rfl⟩,hq⟩;have hx:=hq.x;have hp:=hp.bJ hq;refine az ?_;refine aW hp ?_;intro w hp;refine az ?_;refine bg hp rfl ?_
   rw[ga gM]
   exact⟨z,⟨hz,rfl⟩,hp.sub (by simp)⟩
 ·refine bQ hp Tryz.func77 ((eZ x _ hp.dR hS hW).ff (cY aS)) ?_;intro w hx hp;(repeat(refine ba ?_))
  have cQ:¬(aj x.n/\aD s (ag x.n)/\aD a (ag x.n)/\aD b (ag x.n)):=fun h=>aS h.1
  have gM:¬(aj x.n/\∀l,l∈[s,a,b]->aD l (ag x.n)):=fun h=>cQ ⟨h.1,h.2 s (by simp),h.2 a (by simp),h.2 b (by simp)⟩
  refine aN ?_;refine aI hp ?_
  refine cy Tryz.func80 (cq x _ hp.dR hS) ?_;rintro _ w ⟨z,⟨hz,rfl⟩,hq⟩;have hx:=hq.x;have hp:=hp.bJ hq;refine az ?_;refine aW hp ?_;intro w hp;refine az ?_;refine bg hp rfl ?_
  rw[ga gM]
  exact⟨z,⟨hz,rfl⟩,hp.sub (by simp)⟩
end Go.Proofs
end
section
namespace Go.Proofs
open Go.Xw Go.Deep Go.ChangeShapes Go.WideShapes
set_option maxRecDepth 100000
theorem Sh {H:Type}{enc:TypeId×Value->H}{P:Program}{w:World}{base:Nat}{spare:Nat->Bool}{held:Bool}{t:TypeId}{fuel:Nat}{cs:List Value}{y:DataW H×List MemPlace}
  (ht:P.underlying t=some (.int .u8)) (h:DataW.trod enc P w base spare held fuel t cs=some y):∃x:Int,cs=xt x/\0<=x/\x<=255:=by
 obtain⟨n,h1,_,h2⟩:=DataW.trod_int ht h
 refine⟨n,h1,?_⟩
 have e1:IntKind.u8.min=0:=rfl
 have e2:IntKind.u8.max=255:=rfl
 simp only[Lit.wf,Bool.and_eq_true,decide_eq_true_eq] at h2
 omega
theorem Il {H:Type}{enc:TypeId×Value->H}{P:Program}{w:World}{base:Nat}{spare:Nat->Bool}{held:Bool}{t e:TypeId}{fuel s:Nat}{cs:List Value}{y:DataW H×List MemPlace}{α:Type}[Inhabited α]{en:α->List Value}{Q:α->Prop}
  (ht:P.underlying t=some (.slice e)) (hs:P.cellsOf e=s) (he:bX en s) (hd:∀(n:Nat) (cs:List Value) (z:DataW H×List MemPlace),DataW.trod enc P w base spare held n e cs=some z->∃x,cs=en x/\Q x)
  (h:DataW.trod enc P w base spare held fuel t cs=some y):∃(a:Option Addr) (X:List α) (c:Nat),cs=[.slice a X.length c]/\Sl w a X.length s (fL en X)/\X.length<=c/\X.length<=maxLen/\∀i,i<X.length->Q (X.getD i default):=by
 rcases open_slice ht h with⟨h1,_⟩|⟨a,len,cap,m,n,D,Pl,Aa,hb,hl,hm,wm,hx,hi⟩
 ·exact⟨none,[],0,h1,Sl.nil _ _ _ _,by simp,by simp,fun i hi=>absurd hi (by simp)⟩
 ·have hlm:len<=m:=by
   rw[wm]
   by_cases h2:spare a.block=true
   ·rw[if_pos h2];exact hl
   ·rw[if_neg h2];exact Nat.le_refl _
  rw[hs] at hi
  have key:∀i,∃x:α,i<m->(∀j,j<s->w.cell? ((a.add (i*s)).add j)=(en x)[j]?)/\Q x:=fun i=>by
   by_cases HV:i<m
   ·obtain⟨w9,hc,OK⟩:=hi i HV
    obtain⟨_,Dq,ij⟩:=World.cells?_some hc
    obtain⟨x,hx,hq⟩:=hd _ _ _ OK
    exact⟨x,fun _=>⟨fun j hj=>by rw[ij j hj,hx],hq⟩⟩
   ·exact⟨default,fun h=>absurd h HV⟩
  have Ko:∀i,i<len->((List.range len).map fun i=>Classical.choose (key i)).getD i default=Classical.choose (key i):=fun i hi=>by
   simp[List.getD_eq_getElem?_getD,hi]
  have hlen:((List.range len).map fun i=>Classical.choose (key i)).length=len:=by simp
  refine⟨some a,(List.range len).map fun i=>Classical.choose (key i),cap,by rw[hlen];exact Aa,?_,by rw[hlen];omega,by rw[hlen];omega,fun i hi=> ?_⟩
  ·rw[hlen]
   refine⟨fun _=>by simp,fun i j hi hj=> ?_⟩
   have h3:=(Classical.choose_spec (key i) (by omega)).1 j hj
   simp only[aE,Option.getD_some,Int.toNat_natCast]
   rw[h3]
   have h4:j<(en (Classical.choose (key i))).length:=by rw[he.len];exact hj
   simp only[fL,kV]
   rw[Ko i hi,List.getElem?_eq_getElem h4]
  ·rw[hlen] at hi
   rw[Ko i hi]
   exact(Classical.choose_spec (key i) (by omega)).2
theorem Im {H:Type}{enc:TypeId×Value->H}{w:World}{base:Nat}{spare:Nat->Bool}{held:Bool}{fuel:Nat}{cs:List Value}{y:DataW H×List MemPlace}
  (h:DataW.trod enc Tryz.prog w base spare held fuel 48 cs=some y):∃(a:Option Addr) (X:List Int) (c:Nat),cs=[.slice a X.length c]/\Sl w a X.length 1 (fL xt X)/\X.length<=maxLen/\∀i,i<X.length->0<=X.getD i default/\X.getD i default<=255:=by
 obtain⟨a,X,c,h1,h2,_,h3,h4⟩:=Il Tryz.underlying48 (by kernel_rfl) Pe (fun _ _ _ hz=>Sh Tryz.underlying5 hz) h
 exact⟨a,X,c,h1,h2,h3,h4⟩
end Go.Proofs
end
section
namespace Go.Xw
class Lk (w:World)(R:List (cL Int)):Prop where
 h:∀r,r∈R->Rd w r.ia 1 eI r.ins
theorem Lk.ext {w w':World}{R:List (cL Int)}(h:Lk w R)(hx:Ext w w'):Lk w' R:=⟨fun r hr=>(h.h r hr).ext hx⟩
theorem Lk.at_ {w:World}{R:List (cL Int)}(h:Lk w R){i:Nat}(hi:i<R.length):Rd w (R.getD i default).ia 1 eI (R.getD i default).ins:=h.h _ (u9 hi)
theorem Hp.rs {w0 w:World}{L:List bh}(hp:Hp w0 w L){R:List (cL Int)}[h:kp w0 L 1 eI R]:Lk w R:=⟨fun r hr=>⟨h.h w hp r hr⟩⟩
instance (priority:=low) kp.base {w0:World}{L:List bh}{R:List (cL Int)}[h:Lk w0 R]:kp w0 L 1 eI R:=⟨fun w hp r hr=>((h.h r hr).ext hp.x).h⟩
end Go.Xw
namespace Go.Proofs
open Go.Xw Go.Deep Go.ChangeShapes Go.WideShapes
set_option maxRecDepth 100000
set_option maxHeartbeats 2000000
attribute [local irreducible] ax aE
end Go.Proofs
end
section
namespace Go.Xw
theorem lK.i64 {n:ao}(h:aj n){z:Int}(hz:lK n z):da z:=by
 have:=aj.count h
 unfold da
 rcases hz with hz|hz|hz
 ·unfold aD at hz;omega
 ·omega
 ·omega
end Go.Xw
namespace Go.Proofs
open Go.Xw
set_option maxRecDepth 100000
set_option maxHeartbeats 2000000
attribute [local irreducible] ax aE
theorem AP (a:Option Addr)(c n:Nat)(X:List Int)(hn:X.length=n)(k:Nat)(hk:k<=1000)(w0:World)(hR:Rd w0 a 1 eI X)(hl:X.length<=1048576):
  bN Tryz.prog 141 [.slice a n c,.int .i64 (k:Int)] w0 (fun v w=>v= .int .i64 (g7 X k)/\Ext w0 w):=by
 subst hn
 refine eu Tryz.QG ?_;intro C hp
 apply ae<;>intro h
 ·refine aN ?_;refine bb hp ?_;refine aq ?_
  exact⟨rfl,hp.x⟩
 ·refine aM ?_;refine aq ?_
  refine⟨?_,hp.x⟩
  unfold g7
  rw[List.getD_eq_getElem?_getD,List.getElem?_eq_none (by omega)]
  rfl
theorem D4 (a:Option Addr)(c n:Nat)(X:List Int)(hn:X.length=n)(w0:World)(hR:Rd w0 a 1 eI X)(hl:X.length<=1000)(hxv:∀i,i<X.length->da (X.getD i default)):
  bN Tryz.prog 142 [.slice a n c] w0 (fun v w=>∃b c',v= .slice b n c'/\Hp w0 w [rO 3 1 eI b c' (X.map fb)]):=by
 subst hn
 refine eu Tryz.QH ?_;intro C hp;refine gG hp ?_;intro w _ hx hp;refine az ?_
 refine eg [0,3,4] (fun(i:Nat) (b:Option Addr) (c':Nat)=>[(0,.slice a X.length c),(3,.slice b ((X.take i).map fb).length c'),(4,.int .i64 (i:Int))])
  (fun i b c' w'=>i<=X.length/\Hp w0 w' [rO 3 1 eI b c' ((X.take i).map fb)]) (fun i _ _=>X.length-i) 0 _ _ rfl ⟨by omega,hp⟩ ?_
 clear hp
 rintro i b c' w1 ⟨hi,hp⟩ IH C
 have Nc:((X.take i).map fb).length=i:=by simp;omega
 refine bL ?_
 apply ae<;>intro bD
 ·have aF:i<X.length:=by omega
  have hxi:=hxv i aF
  have e:(X.take (i+1)).map fb=(X.take i).map fb++[fb (X.getD i default)]:=by rw[dm aF,List.map_append];rfl
  refine aN ?_;refine bb hp ?_
  refine bQ hp Tryz.func172 (mM (X.getD i default) _) ?_;intro w hx hp;refine gG hp ?_;intro w _ hx hp;refine az ?_
  refine gT hp ?_;intro b' VK w hp bZ;refine az ?_
  refine IH (i+1) b' VK _ _ _ (by omega) (by rw[e];rfl) ⟨by omega,?_⟩
  rw[e]
  exact hp.drop
 ·refine aM ?_;refine aq ?_
  obtain rfl:i=X.length:=by omega
  rw[List.take_length] at hp
  exact⟨b,c',by rw[Nc],hp⟩
theorem FH (a:Option Addr)(c n:Nat)(X:List Int)(hn:X.length=n)(w0:World)(hR:Rd w0 a 1 eI X)(hl:X.length<=1000):
  bN Tryz.prog 84 [.slice a n c] w0 (fun v w=>v= .bool (decide (∀z,z∈X->0<=z))/\Ext w0 w):=by
 subst hn
 refine eu Tryz.Vw ?_;intro C hp
 refine aR [0,3] (fun(i:Nat)=>[(0,.slice a X.length c),(3,.int .i64 (i:Int))])
  (fun i w'=>(i<=X.length/\∀j,j<i->0<=X.getD j default)/\Hp w0 w' []) (fun i=>X.length-i) 0 rfl ⟨⟨by omega,fun j hj=>by omega⟩,hp⟩ ?_
 clear hp
 rintro i w1 ⟨⟨hi,dL⟩,hp⟩ IH C
 refine bL ?_
 apply ae<;>intro bD
 ·have aF:i<X.length:=by omega
  refine aN ?_;refine bb hp ?_
  apply ae<;>intro h0
  ·refine aN ?_;refine aq ?_
   rw[decide_eq_false (fun h=>by have:=h _ (aK aF);omega)]
   exact⟨rfl,hp.x⟩
  ·refine aM ?_
   refine IH (i+1) _ _ _ (by omega) rfl ⟨⟨by omega,fun j hj=> ?_⟩,hp⟩
   by_cases EB:j=i
   ·subst EB;omega
   ·exact dL j (by omega)
 ·refine aM ?_;refine aq ?_
  obtain rfl:i=X.length:=by omega
  rw[decide_eq_true (f'.2 dL)]
  exact⟨rfl,hp.x⟩
theorem D5 (x:bf)(aA bA:Option Addr)(cA cB wd:Nat)(hw:1<=wd/\wd<=4)(a b:List Int)(ci:Int)(IT:a.length=wd)(Td:b.length=wd)(w0:World)(hX:fG w0 x)(aS:aj x.n)(hA:Rd w0 aA 1 eI a)(hB:Rd w0 bA 1 eI b)(ha:∀z,z∈a->lK x.n z)(hb:∀z,z∈b->lK x.n z)(hc:lK x.n ci):
  bN Tryz.prog 173 [x.v,.slice aA wd cA,.slice bA wd cB,.int .i64 ci] w0 (fun v w=>∃y b' c',(y.n=(qD bY x.n a b ci).1/\v= .tuple ⟨[y.v,.slice b' wd c']⟩)/\Hp w0 w [dv y,rO 3 1 eI b' c' (qD bY x.n a b ci).2]):=by
 have hZ:qD bY x.n a b ci=((bU bY x.n a b ci wd).1,(bU bY x.n a b ci wd).2.1):=by unfold qD;rw[IT]
 refine eu Tryz.Rc ?_;intro C hp;skip;refine bP hp ?_;intro w b4 hx hp;refine az ?_;skip;refine bP hp ?_;intro w b8 hx hp;refine az ?_;refine gG hp ?_;intro w _ hx hp;refine az ?_
 refine kg [1,2,3,4,8,10,11] (fun(k:Nat) (_:bf) (_:List bh) (o:Option Addr) (oc:Nat) (_:Unit)=>[(1,.slice aA wd cA),(2,.slice bA wd cB),(3,.int .i64 (bU bY x.n a b ci k).2.2),(4,.pointer (some ⟨b4,0,none⟩)),(8,.pointer (some ⟨b8,0,none⟩)),(10,.slice o (bU bY x.n a b ci k).2.1.length oc),(11,.int .i64 (k:Int))])
  (fun k y N o oc _ w'=>(k<wd/\y.n=(bU bY x.n a b ci k).1/\lJ w0 N y)/\Hp w0 w' (rO 3 1 eI o oc (bU bY x.n a b ci k).2.1::rB b8 33 (aL Tryz.dY.zero)::rB b4 33 y.cs::N)) (fun k _ _ _ _ _=>wd-k) 0 x [] _ _ () rfl ⟨⟨by omega,rfl,inferInstance⟩,hp⟩ ?_
 clear hp
 rintro k y N o oc _ w1 ⟨⟨hk,hy,hN⟩,hp⟩ IH C
 obtain⟨g,gc⟩:=oz bj aS ha hb hc k
 have F8:=jV bY x.n a b ci k
 obtain⟨r,hr⟩:∃r,r=bU bY x.n a b ci k:=⟨_,rfl⟩
 rw[<-hr] at g gc F8 hp hy⊢
 have hi:aj r.1:=g.i
 have w6:aj y.n:=by rw[hy];exact hi
 have va:=bj.mono g.dX (cZ bj aS ha k)
 have vb:=bj.mono g.dX (cZ bj aS hb k)
 obtain⟨u,hu⟩:∃u,u=a.getD k default:=⟨_,rfl⟩
 obtain⟨v,hv⟩:∃v,v=b.getD k default:=⟨_,rfl⟩
 rw[<-hu] at va
 rw[<-hv] at vb
 obtain⟨x1,x2,x3⟩:=bj.xor hi va vb
 obtain⟨y1,y2,y3⟩:=bj.xor x1 x2 (bj.mono x3 gc)
 have l1:=bj.trans x3 y3
 have hX':qC bY r u v=bY.xor r.1 u v:=rfl
 have hY':jh bY r u v=bY.xor (bY.xor r.1 u v).1 (bY.xor r.1 u v).2 r.2.2:=rfl
 refine bL ?_
 refine ae (fun _=> ?_) (fun hg=>False.elim (by omega));refine aN ?_
 refine fR hp ?_;(repeat(refine gu ?_;first|refine fy ?_|refine jE rfl (by omega) rfl rfl rfl ?_))
 rw[<-hu,<-hv]
 refine j8 Tryz.func174 (fun F w hp=> ?_);refine bN.mono (ks y u v _ hp.pre.dR w6.S' w6.W (va.i64 hi) (vb.i64 hi)) ?_;rintro _ w ⟨z1,⟨vY,rfl⟩,hq⟩;have hp:=hp.eU hq;refine⟨fun _=>hp.sub (by(repeat(first|exact List.sublist_append_left _ _|apply List.Sublist.cons))),_,hp,?_⟩;clear hp;refine cX ?_
 (first|refine oq ?_|refine iS rfl ?_);intro ti;refine cX ?_;refine eO rfl rfl rfl rfl (by kernel_rfl) ?_;refine cX ?_
 refine dc ?_;intro w hp C;refine bL ?_;refine aI hp ?_
 have eX:dG y.n [u,v] (de y.n u v)=bY.xor r.1 u v:=by rw[hy];rfl
 rw[eX] at vY⊢
 have ED:aj z1.n:=by rw[vY];exact x1
 refine cy Tryz.func174 (ks z1 (bY.xor r.1 u v).2 r.2.2 _ hp.dR ED.S' ED.W (x2.i64 x1) ((bj.mono x3 gc).i64 x1)) ?_;rintro _ w ⟨z2,⟨Ll,rfl⟩,hq⟩;have hx:=hq.x;have hp:=hp.bJ hq;refine az ?_;(repeat(first|(refine aH ?_;refine aW hp ?_;intro w hp;refine az ?_)|(refine bK ?_;refine gG hp ?_;intro w _ hx hp;refine az ?_)))
 have eY:dG z1.n [(bY.xor r.1 u v).2,r.2.2] (de z1.n (bY.xor r.1 u v).2 r.2.2)=jh bY r u v:=by rw[vY];rfl
 rw[eY] at Ll hp⊢
 rw[<-hY'] at y1 y2 y3 l1
 have Ch:aj z2.n:=by rw[Ll];exact y1
 refine gT hp ?_;intro o' pD w hp bZ;refine az ?_;(repeat(first|(refine ah ?_;refine aI hp ?_)|(refine aH ?_;refine aW hp ?_;intro w hp;refine az ?_)))
 have hp:=hp.drop
 apply ae<;>intro BA
 ·have eK:bU bY x.n a b ci wd=((jh bY r u v).1,r.2.1++[(jh bY r u v).2],r.2.2):=by
   rw[show wd=k+1 by omega,bU,if_neg (by omega),<-hr,<-hu,<-hv]
  have hlen:(r.2.1++[(jh bY r u v).2]).length=wd:=by rw[List.length_append,F8];show k+1=wd;omega
  refine aN ?_;(repeat(first|(refine ah ?_;refine aI hp ?_)|(refine aH ?_;refine aW hp ?_;intro w hp;refine az ?_)|(refine dA ?_;refine bg hp rfl ?_)))
  rw[hZ,eK]
  exact⟨z2,o',pD,⟨Ll,by rw[hlen];rfl⟩,(hp.f3.f1).tk 2⟩
 ·have p6:k+1<wd:=by omega
  have eK:bU bY x.n a b ci (k+1)=((mN bY r u v).1,r.2.1++[(jh bY r u v).2],(mN bY r u v).2):=by
   rw[bU,if_pos (by omega),<-hr,<-hu,<-hv]
  obtain⟨p1,p2,p3⟩:=bj.and y1 (bj.mono l1 va) (bj.mono l1 vb)
  have l2:=bj.trans l1 p3
  obtain⟨q1,q2,q3⟩:=bj.and p1 (bj.mono (bj.trans y3 p3) x2) (bj.mono l2 gc)
  obtain⟨z1',z2',z3'⟩:=bj.or q1 (bj.mono q3 p2) q2
  refine aM ?_
  refine fR hp ?_;(repeat(refine gu ?_;first|refine fy ?_|refine jE rfl (by omega) rfl rfl rfl ?_))
  rw[<-hu,<-hv]
  refine j8 Tryz.func86 (fun F w hp=> ?_);refine bN.mono (eF z2 u v _ hp.pre.dR Ch.S' Ch.W (va.i64 hi) (vb.i64 hi)) ?_;rintro _ w ⟨z3,⟨ez3,rfl⟩,hq⟩;have hp:=hp.eU hq;refine⟨fun _=>hp.sub (by(repeat(first|exact List.sublist_append_left _ _|apply List.Sublist.cons))),_,hp,?_⟩;clear hp;refine cX ?_;refine eO rfl rfl rfl rfl (by kernel_rfl) ?_;refine cX ?_
  refine dc ?_;intro w hp C;refine bL ?_;refine aI hp ?_
  have eP:dG z2.n [u,v] (ay z2.n u v)=pX bY r u v:=by rw[Ll];rfl
  rw[eP] at ez3⊢
  have p1:aj (pX bY r u v).1:=p1
  have pG:aj z3.n:=by rw[ez3];exact p1
  refine cy Tryz.func86 (eF z3 (bY.xor r.1 u v).2 r.2.2 _ hp.dR pG.S' pG.W (x2.i64 x1) ((bj.mono x3 gc).i64 x1)) ?_;rintro _ w ⟨z4,⟨ez4,rfl⟩,hq⟩;have hx:=hq.x;have hp:=hp.bJ hq;refine az ?_;(repeat(first|(refine ah ?_;refine aI hp ?_)|(refine aH ?_;refine aW hp ?_;intro w hp;refine az ?_)))
  have eQ:dG z3.n [(bY.xor r.1 u v).2,r.2.2] (ay z3.n (bY.xor r.1 u v).2 r.2.2)=pY bY r u v:=by rw[ez3];rfl
  rw[eQ] at ez4⊢
  have q1:aj (pY bY r u v).1:=q1
  have FI:aj z4.n:=by rw[ez4];exact q1
  refine cy Tryz.func144 (nD z4 (pX bY r u v).2 (pY bY r u v).2 _ hp.dR FI.S' FI.W (lK.i64 p1 p2) (lK.i64 q1 q2)) ?_;rintro _ w ⟨z5,⟨ez5,rfl⟩,hq⟩;have hx:=hq.x;have hp:=hp.bJ hq;refine az ?_;refine aW hp ?_;intro w hp;refine az ?_
  have eC:dG z4.n [(pX bY r u v).2,(pY bY r u v).2] (cF z4.n (pX bY r u v).2 (pY bY r u v).2)=mN bY r u v:=by rw[ez4];rfl
  rw[eC] at ez5⊢
  have hp:=(hp.f3.f3.f3).drop.drop.drop
  have hp:=(hp.f5.f5.f5).tk 4
  refine IH (k+1) z5 [dv z5] o' pD () _ _ _ (by omega) (by rw[eK];rfl) ⟨⟨p6,by rw[eK];exact ez5,inferInstance⟩,?_⟩
  rw[eK]
  exact hp
end Go.Proofs
end
