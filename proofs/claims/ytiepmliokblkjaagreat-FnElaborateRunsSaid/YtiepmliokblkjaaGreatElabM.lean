/- Texts that belong together; each under its stated conditions. -/
import Derived.Test.YtiepmliokblkjaaGreatBrf
import Derived.Test.YtiepmliokblkjaaGreatSweep
import Derived.Test.YtiepmliokblkjaaGreatEvSt
import Derived.Test.YtiepmliokblkjaaGreatFlatI
import Derived.Test.YtiepmliokblkjaaGreatExprW
set_option linter.all false
section
namespace Go.Proofs
open Go.Xw
set_option maxRecDepth 100000
set_option maxHeartbeats 1000000
attribute [local irreducible] ax aE
theorem KO (x:bf)(w0:World)(hX:fG w0 x)(aS:aj x.n):
  bN Tryz.prog 41 [x.v] w0 (fun v w=>∃y,(y.n=tV x.n/\v=y.v)/\Hp w0 w [dv y]):=by
 have hn:=aS.ei
 have n1:=hn.n1
 have n4:=hn.n2
 have f2:=hn.f2
 have vu:=aS.nodes
 have iA:=aS.jS
 have On:x.n.af.length=x.af.length:=rfl
 refine eu Tryz.U6 ?_;intro C hp;skip;refine bP hp ?_;intro w b1 hx hp;refine az ?_;skip;refine bP hp ?_;intro w b2 hx hp;refine az ?_;refine aH hp ?_
 refine cx Tryz.func104 (v7 x _ hp.dR aS) ?_;rintro _ w ⟨y0,⟨D6,rfl⟩,hq⟩;have hx:=hq.x;have hp:=hp.bJ hq;refine az ?_
 refine bP hp ?_;intro w b3 hx hp;refine az ?_;(repeat(first|(refine ah ?_;refine aH hp ?_)|(refine aI ?_;refine aW hp ?_;intro w hp;refine az ?_)))
 refine cx Tryz.func105 (ze x _ aS) ?_;rintro _ w ⟨b5,c5,rfl,hq⟩;have hx:=hq.x;have hp:=hp.bJ hq;refine az ?_;refine aH hp ?_
 have E9:y0.af=[]:=congrArg ao.af D6
 have St:y0.aT=x.aT:=congrArg ao.aT D6
 have KN:aU y0.au=(tU x.n []).au:=congrArg ao.au D6
 have th:y0.au.length=x.au.length:=by rw[<-cm y0.au,KN,vr.1,x.fE]
 have z8:y0.cs=(y0.wA y0.aa y0.ac []).cs:=by unfold bf.cs bf.wA;rw[E9]
 have hp:=(kJ hp.f2).f6.f6.f4.f3.f5.f5.f6
 rw[E9] at hp
 have hp:=Hp.Lr hp z8
 refine eg [1,2,3,4,12,13,14] (fun(i:Nat) (_:Option Addr) (_:Nat)=>[(1,.pointer (some ⟨b1,0,none⟩)),(2,.pointer (some ⟨b2,0,none⟩)),(3,.pointer (some ⟨b3,0,none⟩)),(4,.slice b5 (dE x.n) c5),(12,.slice x.aa x.af.length x.ac),(13,.int .i64 x.af.length),(14,.int .i64 (i:Int))])
  (fun i aa ac w'=>i<=x.af.length/\Hp w0 w' [rB b3 33 [.int .i64 y0.aT,.slice y0.sa y0.au.length y0.sc,.slice aa ((cP x.n i).1).length ac,.slice y0.oa y0.outs.length y0.oc],rO 120 2 gh aa ac (cP x.n i).1,rO 3 1 eI b5 c5 ((cP x.n i).2++List.replicate (x.af.length-i) 0),EZ y0.sa y0.sc y0.au,rO 3 1 eI y0.oa y0.oc y0.outs,rB b2 33 (aL Tryz.dY.zero),rB b1 33 x.cs])
  (fun i _ _=>x.af.length-i) 0 y0.aa y0.ac rfl ⟨by omega,hp⟩ ?_
 rintro i aa ac w1 ⟨hi,hp⟩ IH C
 have hl:=lr x.n i
 have hB:=pj aS i hi
 have sD:((cP x.n i).2++List.replicate (x.af.length-i) (0:Int)).length=dE x.n:=by simp;omega
 refine bL ?_
 apply ae<;>intro bD
 ·have aF:i<x.af.length:=by omega
  have hz:(aB x.n+(i:Int)).toNat=bE x.n+i:=by omega
  obtain⟨q1,q2,q3,q4⟩:=aS.tI aF
  have Nt:List.replicate (x.af.length-i) (0:Int)=List.replicate (x.af.length-(i+1)+1) 0:=by rw[show x.af.length-i=x.af.length-(i+1)+1 by omega]
  have l1':aD (a8 (cP x.n i).2 (x.af.getD i default).1) (aB x.n+(cP x.n i).1.length):=(kP aS aF hB).1
  have l2':aD (a8 (cP x.n i).2 (x.af.getD i default).2) (aB x.n+(cP x.n i).1.length):=(kP aS aF hB).2
  have hne5:b5≠none:=bW hp (X:=(cP x.n i).2++List.replicate (x.af.length-i) (0:Int)) (by omega)
  unfold aD at l1' l2'
  have IF:aB (y0.wA aa ac (cP x.n i).1).n=aB x.n:=by rw[eD,eD];show 1+y0.aT+(y0.au.length:Nat)=_;omega
  have hC:ay (y0.wA aa ac (cP x.n i).1).n (a8 (cP x.n i).2 (x.af.getD i default).1) (a8 (cP x.n i).2 (x.af.getD i default).2)=({(y0.wA aa ac (cP x.n i).1).n with af:=(cP x.n (i+1)).1},(gD (aB x.n) (cP x.n i).1 (a8 (cP x.n i).2 (x.af.getD i default).1) (a8 (cP x.n i).2 (x.af.getD i default).2)).2):=by
   rw[rj,IF];rfl
  have SS:xJ (y0.wA aa ac (cP x.n i).1):=⟨by show _<=y0.aT/\y0.aT<=_;omega,by show y0.au.length<=_;omega,by show(cP x.n i).1.length<=_;omega⟩
  refine aN ?_;refine bb hp ?_
  refine bP hp ?_;intro w b6 hx hp;refine az ?_;refine aW hp ?_;intro w hp;refine az ?_
  refine fQ hp ?_;refine fy ?_
  refine j9 Tryz.func70 (fun F w hp=> ?_);refine bN.mono (iE x _ aS.b) ?_;rintro _ w ⟨rfl,hx⟩;have hp:=hp.ext hx;refine⟨fun _=>hp.sub (by(repeat(first|exact List.sublist_append_left _ _|apply List.Sublist.cons))),_,hp,?_⟩;clear hp;refine cX ?_;refine fy ?_
  refine j9 Tryz.func107 (fun F w hp=> ?_);refine bN.mono (qW _ _ _ _ sD (x.af.getD i default).1 _ hp.pre.rd q1 (by omega) (by omega)) ?_;rintro _ w ⟨rfl,hx⟩;have hp:=hp.ext hx;refine⟨fun _=>hp.sub (by(repeat(first|exact List.sublist_append_left _ _|apply List.Sublist.cons))),_,hp,?_⟩;clear hp;refine cX ?_;refine fy ?_
  refine j9 Tryz.func107 (fun F w hp=> ?_);refine bN.mono (qW _ _ _ _ sD (x.af.getD i default).2 _ hp.pre.rd q3 (by omega) (by omega)) ?_;rintro _ w ⟨rfl,hx⟩;have hp:=hp.ext hx;refine⟨fun _=>hp.sub (by(repeat(first|exact List.sublist_append_left _ _|apply List.Sublist.cons))),_,hp,?_⟩;clear hp;refine cX ?_
  rw[oD,oD]
  refine Pw ?_;refine Pw ?_
  refine j9 Tryz.func106 (fun F w hp=> ?_);refine bN.mono (JB (y0.wA aa ac (cP x.n i).1) b3 (a8 (cP x.n i).2 (x.af.getD i default).1) (a8 (cP x.n i).2 (x.af.getD i default).2) hp SS (by show(cP x.n i).1.length<=_;omega) (by omega) (by omega)) ?_;rintro _ w ⟨kx,ky,rfl,hp⟩;refine⟨fun hq=>Bool.noConfusion (hq.symm.trans (by kernel_rfl:bH _ _=false)),_,hp,?_⟩;clear hp;refine cX ?_;refine Gk rfl rfl rfl (by omega) (by decide) rfl rfl (by kernel_rfl) ?_;refine cX ?_
  refine dc ?_;intro w hp C;refine bL ?_
  rw[hC,hz,Nt,show bE x.n+i=(cP x.n i).2.length by omega,tS] at hp
  refine IH (i+1) kx ky _ _ _ (by omega) rfl ⟨by omega,?_⟩
  exact hp.f2.drop
 ·refine aM ?_;refine aH hp ?_
  obtain rfl:i=x.af.length:=by omega
  rw[Nat.sub_self,List.replicate_zero,List.append_nil] at hp sD
  refine cx Tryz.func108 (v8 b3 (y0.wA aa ac (cP x.n x.af.length).1) x b5 c5 (dE x.n) (cP x.n x.af.length).2 sD (hp.f2.f2.f4.f4.f4) aS (Nat.le_refl _) (by omega) (by show _<=y0.au.length;omega) (by show y0.au.length<=_;omega)) ?_;rintro _ w ⟨R,oa,oc,rfl,⟨hR,wH⟩,hp⟩;refine az ?_;refine aH hp ?_
  have fF:R.length=y0.au.length:=hR
  have FV:aU R=x.n.au.map fun s=>⟨s.kind,s.init,dZ (cP x.n x.af.length).2 s.ins⟩:=by
   rw[wH]
   show lX (FT (aU y0.au) x.n _) x.au.length (aU y0.au)=_
   rw[KN,<-x.fE]
   exact Cm vr.1 vr.2
  have cj:(bf.mk y0.aT R y0.sa y0.sc (cP x.n x.af.length).1 aa ac (dZ (cP x.n x.af.length).2 x.outs) oa oc).n=Mq x.n:=by
   unfold bf.n
   rw[FV,St]
   rfl
  have hp:=fc (x:=⟨y0.aT,R,y0.sa,y0.sc,(cP x.n x.af.length).1,aa,ac,dZ (cP x.n x.af.length).2 x.outs,oa,oc⟩) (hp.f2.f3.f3)
  refine gq ?_
  show ax _ _ _ _ _ (.act (.call _ [.agg ⟨[.int .i64 y0.aT,.slice y0.sa y0.au.length y0.sc,.slice aa (cP x.n x.af.length).1.length ac,.slice oa (dZ (cP x.n x.af.length).2 x.outs).length oc]⟩]) _)
  rw[<-fF]
  refine cx Tryz.func109 (Ns ⟨y0.aT,R,y0.sa,y0.sc,(cP x.n x.af.length).1,aa,ac,dZ (cP x.n x.af.length).2 x.outs,oa,oc⟩ _ hp.dR (by rw[cj];exact rk aS)) ?_;rintro _ w ⟨z,⟨hz,rfl⟩,hq⟩;have hx:=hq.x;have hp:=hp.bJ hq;refine az ?_;refine aW hp ?_;intro w hp;refine az ?_;refine jf hp rfl ?_
  rw[cj] at hz
  exact⟨z,⟨hz,rfl⟩,Hp.tk hp 1⟩
theorem Ef (y x:bf)(ta:Option Addr)(tc m:Nat)(to:List Int)(hm:to.length=m)(A:List (Int×Int)){w0 w:World}{L:List bg}(hp:Hp w0 w (dv y::L))[hX:lJ w0 L x][hT:gm w0 L ta 1 eI to](aS:aj x.n)(hy:y.n=kz x.n A)(hB:tT (aB x.n) A to)(vu:dE x.n<=m)(hmb:m<=1000000):
  bN Tryz.prog 87 [y.v,x.v,.slice ta m tc] w (fun v w'=>∃z,(z.n=gE (jI x.n A to)/\v=z.v)/\Hp w0 w' (dv z::L)):=by
 subst hm
 have hn:=aS.ei
 have n1:=hn.n1
 have n2:=hn.n2
 have iA:=aS.jS
 have sY:=x.fE
 have pJ:∀l,aD l (ag x.n)->0<=l/\l/2<to.length:=fun l h=>by unfold aD at h;omega
 have E9:y.af=A:=congrArg ao.af hy
 have St:y.aT=x.aT:=congrArg ao.aT hy
 have KN:aU y.au=(kz x.n A).au:=congrArg ao.au hy
 have th:y.au.length=x.au.length:=by rw[<-cm y.au,KN,vt.1,x.fE]
 refine vI Tryz.Vv ?_;intro C
 refine bP hp ?_;intro w b3 hx hp;refine az ?_
 refine bP hp ?_;intro w b4 hx hp;refine az ?_
 refine bP hp ?_;intro w b6 hx hp;refine az ?_
 have hp:=ou ((kJ hp.f3).f2.f2.f3.f4.f5.f5)
 refine gK [2,3,4,6,7] (fun(i:Nat) (_:List dM)=>[(2,.slice ta to.length tc),(3,.pointer (some ⟨b3,0,none⟩)),(4,.pointer (some ⟨b4,0,none⟩)),(6,.pointer (some ⟨b6,0,none⟩)),(7,.int .i64 (i:Int))])
  (fun i R w'=>(i<=x.au.length/\R.length=y.au.length/\aU R=lX (FT (aU y.au) x.n to) i (aU y.au))/\Hp w0 w' (rO 68 3 kf y.sa y.sc R::fz R::rB b3 33 y.cs::rB b4 33 x.cs::rB b6 33 (aL Tryz.dY.zero)::rO 120 2 gh y.aa y.ac y.af::rO 3 1 eI y.oa y.oc y.outs::L)) (fun i _=>x.au.length-i) 0 y.au rfl
  ⟨⟨by omega,rfl,by rw[kK]⟩,hp⟩ ?_
 rintro i R w1 ⟨⟨hi,hR,wH⟩,hp⟩ IH C
 refine bL ?_;refine aH hp ?_
 apply ae<;>intro bD
 ·have aF:i<x.au.length:=by omega
  have pW:=aS.ins aF
  have OU:=x.rQ i
  have hq:∀j,j<(x.au.getD i default).ins.length->0<=(x.au.getD i default).ins.getD j default/\(x.au.getD i default).ins.getD j default/2<to.length:=fun j hj=>
   pJ _ (aS.ck (aK (show i<x.n.au.length by omega)) _ (by rw[OU];exact aK hj))
  have lN:=hX.in_ aF
  have fD:y.sa≠none:=bW hp (X:=R) (by omega)
  have hne2:x.sa≠none:=bW hp (X:=x.au) (by omega)
  refine aN ?_
  refine fQ hp ?_;(repeat(refine gu ?_;first|refine fy ?_|refine sK rfl (by omega) rfl rfl rfl ?_))
  refine j9 Tryz.func146 (fun F w hp=> ?_);refine bN.mono (qX _ _ _ _ to (x.au.getD i default).ins _ _ rfl rfl _ hp.pre.rd hp.pre.rd hq (by omega) (by omega)) ?_;rintro _ w ⟨r,e,rfl,hq⟩;have hp:=hp.eU hq;refine⟨fun _=>hp.sub (by(repeat(first|exact List.sublist_append_left _ _|apply List.Sublist.cons))),_,hp,?_⟩;clear hp;refine cX ?_
  first|refine Bo ({R.getD i default with ins:=dZ to (x.au.getD i default).ins,ia:=r,ic:=e}) rfl rfl rfl (by omega) (by decide) rfl rfl (by kernel_rfl) ?_|refine Gl ({R.getD i default with ins:=dZ to (x.au.getD i default).ins,ia:=r,ic:=e}) rfl rfl rfl (by omega) (by decide) rfl rfl (by kernel_rfl) ?_
  refine cX ?_
  refine dc ?_;intro w hp C;refine bL ?_
  obtain⟨Q,hq,gF⟩:=nC hp.f2 (i:=i) (by omega)
  have hp:=(gF _ _ {R.getD i default with ins:=dZ to (x.au.getD i default).ins,ia:=r,ic:=e} hq.drop.f1).f1
  refine IH (i+1) _ _ _ _ (by omega) rfl ⟨⟨by omega,by simp;omega,?_⟩,hp⟩
  have C9:i<(aU y.au).length:=by rw[cm];omega
  rw[jN,wH,<-mI (f:=FT (aU y.au) x.n to) C9]
  congr 1
  have h1:(R.getD i default).s=(aU y.au).getD i default:=by
   rw[<-gL,wH,wG (Nat.le_refl _) (by omega)]
  unfold FT
  rw[<-h1,OU]
  rfl
 ·refine aM ?_;refine aH hp ?_
  obtain rfl:i=x.au.length:=by omega
  refine cx Tryz.func146 (qX _ _ _ _ to x.outs _ _ rfl rfl _ hp.rd hp.rd (fun j hj=>pJ _ (aS.out _ (aK hj))) (by omega) (by omega)) ?_;rintro _ w ⟨r,e,rfl,hq⟩;have hx:=hq.x;have hp:=hp.bJ hq;refine az ?_;(repeat(first|(refine ah ?_;refine aH hp ?_)|(refine aI ?_;refine iC hp ?_;intro w hp;refine az ?_)))
  have FV:aU R=x.n.au.map fun s=>⟨s.kind,s.init,dZ to s.ins⟩:=by
   rw[wH,KN,<-x.fE]
   exact Cm vt.1 vt.2
  have hZ:(bf.mk y.aT R y.sa y.sc y.af y.aa y.ac (dZ to x.outs) r e).n=jI x.n A to:=by
   unfold bf.n
   rw[FV,St,E9]
   rfl
  have Su:aj (bf.mk y.aT R y.sa y.sc y.af y.aa y.ac (dZ to x.outs) r e).n:=by rw[hZ];exact BE aS hB vu
  have hp:=fc (x:=⟨y.aT,R,y.sa,y.sc,y.af,y.aa,y.ac,dZ to x.outs,r,e⟩) ((gX (hp.f2.f2)).f1.f5.f2)
  refine gq ?_
  show ax _ _ _ _ _ (.act (.call _ [.agg ⟨[.int .i64 y.aT,.slice y.sa y.au.length y.sc,.slice y.aa y.af.length y.ac,.slice r (dZ to x.outs).length e]⟩]) _)
  rw[<-hR]
  refine cx Tryz.func147 (Ee ⟨y.aT,R,y.sa,y.sc,y.af,y.aa,y.ac,dZ to x.outs,r,e⟩ _ hp.dR Su.S' Su.W) ?_;rintro _ w ⟨z,⟨hz,rfl⟩,hq⟩;have hx:=hq.x;have hp:=hp.bJ hq;refine az ?_;refine aW hp ?_;intro w hp;refine az ?_;refine jf hp rfl ?_
  rw[rm Su,hZ] at hz
  refine⟨z,⟨hz,rfl⟩,?_⟩
  exact hp.f1.drop.f1.drop.f1.drop.f1.drop.f1.drop
theorem KP {n:ao}(aS:aj n){A:List (Int×Int)}{to:List Int}(hB:tT (aB n) A to){a b:Int}(ha:aD a (aB n+A.length))(hb:aD b (aB n+A.length)):
  dF (kz n A) [a,b] (ay (kz n A) a b)=if(gD (aB n) A a b).2<0 then(kz n A,-1) else(kz n (gD (aB n) A a b).1,(gD (aB n) A a b).2):=by
 have hz:=GD aS hB
 have vu:ag (kz n A)=aB n+A.length:=by have:=kZ n A;unfold aB at this;unfold ag;rw[this];rfl
 have hC:ay (kz n A) a b=(kz n (gD (aB n) A a b).1,(gD (aB n) A a b).2):=by
  rw[rj,kZ];rfl
 have hv:aj (kz n A)/\∀l,l∈[a,b]->aD l (ag (kz n A)):=⟨hz,cO.2 (by rw[vu];exact⟨ha,hb⟩)⟩
 split
 ·rename_i h
  exact gZ hv (by rw[hC];exact h)
 ·rename_i h
  rw[dS hv (by rw[hC];exact h),hC]
theorem FW (x:bf)(w0:World)(hX:fG w0 x)(hS:kL x.n)(hW:nq x.n):
  bN Tryz.prog 31 [x.v] w0 (fun v w=>∃y,(y.n=Aq x.n (tV x.n)/\v=y.v)/\Hp w0 w [dv y]):=by
 refine eu Tryz.U0 ?_;intro C hp;skip;refine bP hp ?_;intro w b1 hx hp;refine az ?_;skip;refine bP hp ?_;intro w b2 hx hp;refine az ?_;refine aH hp ?_
 by_cases aS:aj x.n
 ·have hn:=aS.ei
  have n1:=hn.n1
  have n4:=hn.n2
  have f2:=hn.f2
  have vu:=aS.nodes
  have iA:=aS.jS
  have On:x.n.af.length=x.af.length:=rfl
  have OS:=kO x.n
  rw[rm aS]
  refine bQ hp Tryz.func77 ((eZ x _ hp.dR hS hW).tt (fi aS)) ?_;intro w hx hp
  refine aM ?_;refine aH hp ?_
  refine cx Tryz.func85 (zf x _ hp.dR aS hS) ?_;rintro _ w ⟨y0,b5,c5,⟨D6,rfl⟩,hq⟩;refine az ?_
  have hp:=hp.call2 hq
  skip
  refine bP hp ?_;intro w b3 hx hp;refine az ?_;refine aW hp ?_;intro w hp;refine az ?_
  refine jv [1,2,3,4,5] (fun(i:Nat) (_:bf) (tb:Option Addr) (tc:Nat)=>[(1,.pointer (some ⟨b1,0,none⟩)),(2,.pointer (some ⟨b2,0,none⟩)),(3,.pointer (some ⟨b3,0,none⟩)),(4,.slice tb (cP x.n i).2.length tc),(5,.int .i64 (i:Int))])
   (fun i y tb tc w'=>(i<=x.af.length/\y.n=kz x.n (cP x.n i).1)/\Hp w0 w' [rB b3 33 y.cs,dv y,rO 3 1 eI tb tc (cP x.n i).2,rB b2 33 (aL Tryz.dY.zero),rB b1 33 x.cs])
   (fun i _ _ _=>x.af.length-i) 0 y0 b5 c5 rfl ⟨⟨by omega,D6⟩,hp⟩ ?_
  rintro i y tb tc w1 ⟨⟨hi,hy⟩,hp⟩ IH C
  have hl:=lr x.n i
  have hB:=pj aS i hi
  have Wy:=GD aS hB
  refine bL ?_;refine aH hp ?_
  apply ae<;>intro bD
  ·have aF:i<x.af.length:=by omega
   obtain⟨q1,q2,q3,q4⟩:=aS.tI aF
   have l1:aD (a8 (cP x.n i).2 (x.af.getD i default).1) (aB x.n+(cP x.n i).1.length):=(kP aS aF hB).1
   have l2:aD (a8 (cP x.n i).2 (x.af.getD i default).2) (aB x.n+(cP x.n i).1.length):=(kP aS aF hB).2
   have CT:=KP aS hB l1 l2
   have Ge:¬(gD (aB x.n) (cP x.n i).1 (a8 (cP x.n i).2 (x.af.getD i default).1) (a8 (cP x.n i).2 (x.af.getD i default).2)).2<0:=by
    rcases hB.addLit l1 l2 with h|⟨_,h⟩
    ·unfold aD at h;omega
    ·omega
   rw[if_neg Ge] at CT
   have MD:=l1.i64 (by omega)
   have mg:=l2.i64 (by omega)
   refine aN ?_
   refine fQ hp ?_;(repeat(refine gu ?_;first|refine fy ?_|refine sK rfl (by omega) rfl rfl rfl ?_|refine tF rfl (by omega) (by omega) rfl rfl rfl ?_))
   refine j9 Tryz.func86 (fun F w hp=> ?_);refine bN.mono (eF y (a8 (cP x.n i).2 (x.af.getD i default).1) (a8 (cP x.n i).2 (x.af.getD i default).2) _ (sN (hp.pre.take (dv y))) (by rw[hy];exact Wy.S') (by rw[hy];exact Wy.W) MD mg) ?_;rintro _ w ⟨z,⟨hz,rfl⟩,hq⟩;have hp:=hp.eU hq;refine⟨fun _=>hp.sub (by(repeat(first|exact List.sublist_append_left _ _|apply List.Sublist.cons))),_,hp,?_⟩;clear hp;refine cX ?_
   (first|refine oq ?_|refine iQ rfl ?_);intro b6;refine cX ?_;refine eO rfl rfl rfl rfl (by kernel_rfl) ?_;refine cX ?_
   refine dc ?_;intro w hp C;refine bL ?_;(repeat(first|(refine ah ?_;refine aH hp ?_)|(refine aI ?_;refine aW hp ?_;intro w hp;refine az ?_)|(refine bK ?_;refine gG hp ?_;intro w _ hx hp;refine az ?_)))
   rw[hy,CT] at hz
   refine gT hp ?_;intro Wx Sa w hp bZ;refine az ?_
   rw[hy,CT] at hp
   refine IH (i+1) z Wx Sa _ _ _ (by omega) ?_ ⟨⟨by omega,hz⟩,Hp.tk (hp.f7.f7.f7.f5.f6) 5⟩
   rw[hy,CT]
   rfl
  ·refine aM ?_;(repeat(refine aH hp ?_))
   obtain rfl:i=x.af.length:=by omega
   refine cx Tryz.func87 (Ef y x tb tc _ (cP x.n x.af.length).2 rfl (cP x.n x.af.length).1 hp.f1 aS hy hB (by omega) (by omega)) ?_;rintro _ w ⟨z,⟨hz,rfl⟩,hp⟩;refine az ?_;refine aW hp ?_;intro w hp;refine az ?_;refine jf hp rfl ?_
   exact⟨z,⟨hz,rfl⟩,Hp.tk hp 1⟩
 ·refine bQ hp Tryz.func77 ((eZ x _ hp.dR hS hW).ff (cY aS)) ?_;intro w hx hp
  refine aN ?_;refine aW hp ?_;intro w hp;refine az ?_;refine jf hp rfl ?_
  rw[Dj aS]
  exact⟨Nq,⟨rfl,rfl⟩,Hp.tk (OV hp) 1⟩
end Go.Proofs
end
section
namespace Go.Xw
open Go.Proofs
set_option maxHeartbeats 1000000
theorem Hp.f8 {w0 w:World}{R A_ B_ C_ D_ E_ F_ G_ H_:bg}{L:List bg}(h:Hp w0 w (A_::B_::C_::D_::E_::F_::G_::H_::R::L)):Hp w0 w (R::A_::B_::C_::D_::E_::F_::G_::H_::L):=h.perm (List.perm_middle (l₁:=[A_,B_,C_,D_,E_,F_,G_,H_]))
theorem Hp.f9 {w0 w:World}{R A_ B_ C_ D_ E_ F_ G_ H_ I_:bg}{L:List bg}(h:Hp w0 w (A_::B_::C_::D_::E_::F_::G_::H_::I_::R::L)):Hp w0 w (R::A_::B_::C_::D_::E_::F_::G_::H_::I_::L):=h.perm (List.perm_middle (l₁:=[A_,B_,C_,D_,E_,F_,G_,H_,I_]))
theorem Hp.f10 {w0 w:World}{R A_ B_ C_ D_ E_ F_ G_ H_ I_ J_:bg}{L:List bg}(h:Hp w0 w (A_::B_::C_::D_::E_::F_::G_::H_::I_::J_::R::L)):Hp w0 w (R::A_::B_::C_::D_::E_::F_::G_::H_::I_::J_::L):=h.perm (List.perm_middle (l₁:=[A_,B_,C_,D_,E_,F_,G_,H_,I_,J_]))
theorem Hp.f11 {w0 w:World}{R A_ B_ C_ D_ E_ F_ G_ H_ I_ J_ K_:bg}{L:List bg}(h:Hp w0 w (A_::B_::C_::D_::E_::F_::G_::H_::I_::J_::K_::R::L)):Hp w0 w (R::A_::B_::C_::D_::E_::F_::G_::H_::I_::J_::K_::L):=h.perm (List.perm_middle (l₁:=[A_,B_,C_,D_,E_,F_,G_,H_,I_,J_,K_]))
def qA (Q:List fR):List dM:=Q.map fun s=>⟨s.kind,s.init,[],none,0⟩
theorem Cn (Q:List fR):(qA Q).length=Q.length:=by simp[qA]
theorem Co (Q P:List fR):qA (Q++P)=qA Q++qA P:=by simp[qA]
theorem Nu (Q:List fR):aU (qA Q)=Q.map nG:=by simp[qA,aU,dM.s,nG]
def gA (Q:List fR):List dM:=Q.map fun s=>⟨s.kind,s.init,s.ins,none,0⟩
theorem Sv (Q:List fR):(gA Q).length=Q.length:=by simp[gA]
theorem Nv (Q:List fR):aU (gA Q)=Q:=by
 unfold gA aU
 rw[List.map_map]
 exact List.map_id' Q
def gN (N:ao)(sa:Option Addr)(sc:Nat):bf:=⟨N.aT,gA N.au,sa,sc,N.af,none,0,N.outs,none,0⟩
theorem Wz (N:ao)(sa:Option Addr)(sc:Nat):(gN N sa sc).n=N:=by
 show(⟨N.aT,aU (gA N.au),N.af,N.outs⟩:ao)=N
 rw[Nv]
theorem zg {w0 w:World}{L:List bg}:∀(Q P:List fR),Hp w0 w (fz (qA P)::L)->Hp w0 w (fz (qA (P++Q))::L)
 |[],P,h=>by rw[List.append_nil];exact h
 |s::Q,P,h=>by
  have h2:=zg Q (P++[s]) (by
   rw[Co]
   exact HR (y:=⟨s.kind,s.init,[],none,0⟩) h ((Hp.nil w).eH (Ext.refl _) (dk.nil _ _ _ _ _)))
  rw[List.append_assoc] at h2
  exact h2
theorem Iv {w0 w:World}{L:List bg}(Q:List fR)(h:Hp w0 w L):Hp w0 w (fz (qA Q)::L):=zg Q [] (ot h)
theorem iK {n:aQ}(hm:aV n)(k:Int):∀i:Nat,i<=n.sg.length->dU n k i<=4*i
 |0,_=>Nat.le_refl _
 |i+1,hi=>by
  have ih:=iK hm k i (by omega)
  have hw:=sW hm (s:=(i:Nat)) (by unfold dr;omega)
  have MT:=oL hm (s:=(i:Nat)) (by unfold dr;omega)
  rw[dU]
  split<;>omega
theorem tf {n:aQ}(hm:aV n):∀j:Nat,j<=n.ms.length->ja n j<=4*j
 |0,_=>Nat.le_refl _
 |j+1,hj=>by
  have ih:=tf hm j (by omega)
  have ho:=(hm.ms j (by omega)).2.2.2.1
  have hw:=sW hm ho
  have MT:=oL hm ho
  rw[ja]
  omega
theorem KQ (R:List yf)(s:Int)(j:Nat):(hJ R s j).toNat<=j:=by have:=nX R s j;omega
theorem Sw {n:aQ}(hm:aV n){j s:Nat}(hj:j<=n.ms.length)(hs:s<n.sg.length):wy n j s<=8:=by
 have hw:=sW hm (s:=(s:Nat)) (by unfold dr;omega)
 have MT:=oL hm (s:=(s:Nat)) (by unfold dr;omega)
 have h1:=KQ n.ms (s:Nat) j
 have h3:=hm.l3
 unfold wy
 split
 ·omega
 ·have:=Nat.mul_le_mul (show(hJ n.ms (s:Nat) j).toNat<=2 by omega) (show wN n (s:Nat)<=4 by omega)
  omega
structure Sx (n:aQ)(st:List (List Int)×Nat):Prop where
 len:st.1.length=n.sg.length
 row:∀s,s<n.sg.length->(st.1.getD s default).length<=8
 pos:st.2<=1000
theorem OX {n:aQ}(hm:aV n){i:Nat}(hi:i<=n.sg.length):Sx n (tj n i):=by
 obtain⟨h1,h2⟩:=BN n i hi
 have h3:=iK hm 0 i hi
 have h4:=hm.l1
 refine⟨h1.len,fun s hs=> ?_,by omega⟩
 rw[(h1.row s hs).1]
 have hw:=sW hm (s:=(s:Nat)) (by unfold dr;omega)
 have MT:=oL hm (s:=(s:Nat)) (by unfold dr;omega)
 split<;>omega
theorem OY {n:aQ}(hm:aV n){i:Nat}(hi:i<=n.sg.length):Sx n (u9 n i):=by
 obtain⟨h1,h2⟩:=BO n i hi
 have h3:=iK hm 0 n.sg.length (Nat.le_refl _)
 have h5:=iK hm 3 i hi
 have h4:=hm.l1
 refine⟨h1.len,fun s hs=> ?_,by omega⟩
 rw[(h1.row s hs).1]
 have hw:=sW hm (s:=(s:Nat)) (by unfold dr;omega)
 have MT:=oL hm (s:=(s:Nat)) (by unfold dr;omega)
 split<;>omega
theorem OZ {n:aQ}(hm:aV n){j:Nat}(hj:j<=n.ms.length):Sx n (pS n j):=by
 obtain⟨h1,h2⟩:=pw hm j hj
 have h3:=iK hm 0 n.sg.length (Nat.le_refl _)
 have h5:=iK hm 3 n.sg.length (Nat.le_refl _)
 have h6:=tf hm j hj
 have h4:=hm.l1
 have h7:=hm.l3
 refine⟨h1.len,fun s hs=> ?_,by omega⟩
 rw[(h1.row s hs).1]
 exact Sw hm hj hs
theorem mu {α:Type}(R:List (cL α))(i:Nat)(y:cL α):aJ (R.set i y)=(aJ R).set i y.ins:=by simp[aJ,List.map_set]
theorem AU (N:ao)(q:Nat)(bits:List Int):∀k,(jh N q bits k).af=N.af
 |0=>rfl
 |k+1=>AU N q bits k
theorem AV (sig:List (List Int))(x:yf)(N:ao)(q:Nat):∀k,(l7 sig x N q k).af=N.af
 |0=>rfl
 |k+1=>AV sig x N q k
theorem AW (n:aQ)(sig:List (List Int))(N:ao)(q:Nat):∀j,(dj n sig N q j).1.af=N.af
 |0=>rfl
 |j+1=>by rw[dj];exact(AV _ _ _ _ _).trans (AW n sig N q j)
def zh:bf:=⟨0,[],none,0,[],none,0,[],none,0⟩
theorem oQ {w0 w:World}{L:List bg}(h:Hp w0 w L):Hp w0 w (dv zh::L):=by
 have h1:Hp w0 w (rO 3 1 eI none 0 ([]:List Int)::L):=h.eH (Ext.refl _) (dk.nil _ _ _ _ _)
 have h2:Hp w0 w (rO 120 2 gh none 0 ([]:List (Int×Int))::rO 3 1 eI none 0 ([]:List Int)::L):=h1.eH (Ext.refl _) (dk.nil _ _ _ _ _)
 have h3:Hp w0 w (rO 68 3 kf none 0 ([]:List dM)::fz []::rO 120 2 gh none 0 ([]:List (Int×Int))::rO 3 1 eI none 0 ([]:List Int)::L):=(ot h2).eH (Ext.refl _) (dk.nil _ _ _ _ _)
 exact fc (x:=zh) (gX h3)
theorem jN (Q:List dM)(i:Nat)(y:dM):aU (Q.set i y)=(aU Q).set i y.s:=by simp[aU,List.map_set]
theorem Eg {Q:List dM}{M:ao}{q:Nat}(h:aU Q=zu M.au q)(hq:q<M.au.length)(l:List Int)(a:Option Addr)(c:Nat):aU (Q.set q {Q.getD q default with ins:=l,ia:=a,ic:=c})=zu (lE M q l).au (q+1):=by
 rw[jN,ML hq,<-h,gL];rfl
end Go.Xw
namespace Go.Proofs
open Go.Xw
set_option maxRecDepth 100000
set_option maxHeartbeats 2000000
theorem KR (w0:World)(R:List (cL Int))(n:Nat)(hn:R.length=n)(sa:Option Addr)(sc:Nat)(bx p wd:Nat)(hw:1<=wd/\wd<=4)(y:bf)(ops:List dJ)(oa:Option Addr)(oc:Nat)(jL:ops.length<=15)(fF:n<=1000)(pU:∀i,i<R.length->(R.getD i default).ins.length<=1000)(t:cI)(ht:ops=t.dh)(aS:t.ok n)(s:ao×Bool)(hl:s.1={y.n with af:=s.1.af})(hs:aj s.1)(hv:∀l,l∈aJ R->∀z,z∈l->aD z (ag s.1))(aa:Option Addr)(ac:Nat)(w1:World)(L:List bg)[h1:gm w0 L sa 1 jk R][h2:kq w0 L 1 eI R][h3:gm w0 L oa 3 kg ops]
  (hp:Hp w0 w1 (rB bx 88 [.pointer (some ⟨p,0,none⟩),.slice sa n sc,.int .i64 (wd:Int),.bool s.2]::rB p 33 (y.wA aa ac s.1.af).cs::rO 120 2 gh aa ac s.1.af::L)):
  bN Tryz.prog 40 [.pointer (some ⟨bx,0,none⟩),.slice oa ops.length oc,.int .i64 0] w1 (fun v w'=>∃b c kx ky q,v= .tuple ⟨[.slice b (dB a6 (aJ R) wd t s).2.length c,.int .i64 q]⟩/\Hp w0 w' (rO 3 1 eI b c (dB a6 (aJ R) wd t s).2::rB bx 88 [.pointer (some ⟨p,0,none⟩),.slice sa n sc,.int .i64 (wd:Int),.bool (dB a6 (aJ R) wd t s).1.2]::rB p 33 (y.wA kx ky (dB a6 (aJ R) wd t s).1.1.af).cs::rO 120 2 gh kx ky (dB a6 (aJ R) wd t s).1.1.af::L)):=by
 subst hn
 have h:=s9 w0 R sa sc bx p wd hw y ops oa oc jL fF pU t [] [] (by simpa using ht) aS s hl hs hv aa ac w1 L h1 h2 h3 hp
 refine bN.mono h ?_
 rintro v w ⟨b,c,kx,ky,h4,h5⟩
 exact⟨b,c,kx,ky,_,h4,h5⟩
attribute [local irreducible] ax aE
theorem zi (x:bm)(w0:World)(hM:iH w0 x)(b1 b5 b6 bs p:Nat)(s:Nat)(sv:Int)(hsv:sv=(s:Nat))(hs:s<x.sg.length)(wd:Nat)(hw:(x.sg.getD s default).width=(wd:Nat))(Kx:wd<=4)(sY:x.sg.length<=30)(R:List (cL Int))(fF:R.length=x.sg.length)(wH:(R.getD s default).ins.length<=8)(jQ:p<=1000)(w:World)(L:List bg)
  (hp:Hp w0 w (rO 31 1 jk (some ⟨bs,0,none⟩) x.sg.length R::cC 3 1 eI R::rB b6 3 [.int .i64 ((p:Nat):Int)]::rB b5 50 [.slice (some ⟨bs,0,none⟩) x.sg.length x.sg.length]::rB b1 41 x.cs::L)):
  bN Tryz.prog 38 [.int .i64 sv,.pointer (some ⟨b1,0,none⟩),.pointer (some ⟨b5,0,none⟩),.pointer (some ⟨b6,0,none⟩)] w (fun v w'=>∃R',v= .tuple ⟨[]⟩/\(R'.length=R.length/\aJ R'=(iV (aJ R,p) s wd).1)/\
   Hp w0 w' (rO 31 1 jk (some ⟨bs,0,none⟩) x.sg.length R'::cC 3 1 eI R'::rB b6 3 [.int .i64 ((p+wd:Nat):Int)]::rB b5 50 [.slice (some ⟨bs,0,none⟩) x.sg.length x.sg.length]::rB b1 41 x.cs::L)):=by
 subst hsv
 refine vI Tryz.U3 ?_;intro C
 skip
 refine aR [0,1,2,3,5] (fun(k:Nat)=>[(0,.int .i64 ((s:Nat):Int)),(1,.pointer (some ⟨b1,0,none⟩)),(2,.pointer (some ⟨b5,0,none⟩)),(3,.pointer (some ⟨b6,0,none⟩)),(5,.int .i64 (k:Int))])
  (fun k w'=>k<=wd/\∃R',(R'.length=R.length/\aJ R'=(iV (aJ R,p) s k).1)/\Hp w0 w' (rO 31 1 jk (some ⟨bs,0,none⟩) x.sg.length R'::cC 3 1 eI R'::rB b6 3 [.int .i64 ((p+k:Nat):Int)]::rB b5 50 [.slice (some ⟨bs,0,none⟩) x.sg.length x.sg.length]::rB b1 41 x.cs::L)) (fun k=>wd-k) 0 rfl ⟨by omega,R,⟨rfl,by rw[rC (by rw[fg];omega)]⟩,hp⟩ ?_
 clear hp
 rintro k w1 ⟨hk,R',⟨Eh,Cp⟩,hp⟩ IH C
 refine bL ?_;(repeat(refine ah ?_;first|refine aH hp ?_|refine dg hp ?_))
 apply ae<;>intro bD
 ·have aF:k<wd:=by omega
  have fD:(some ⟨bs,0,none⟩:Option Addr)≠none:=by simp
  have r7:(R'.getD s default).ins.length<=20:=by
   rw[<-bk,Cp]
   show(((aJ R).set s ((aJ R).getD s default++jt p k)).getD s default).length<=20
   rw[cG (by rw[fg];omega),if_pos rfl,List.length_append,bk,oK]
   omega
  refine aN ?_
  obtain⟨Q,hq,gF⟩:=oJ hp.f1 (show s<R'.length by omega)
  clear hp
  have hp:=hq
  clear hq
  refine Bm hp (Hp.drop hp) (by kernel_rfl) (by kernel_rfl) rfl rfl ?_;(repeat(first|(refine gu ?_;first|refine fy ?_|refine jE rfl (by omega) rfl rfl rfl ?_)|(refine qv ?_;refine lI rfl rfl rfl rfl rfl rfl rfl rfl rfl rfl ?_;intro _;refine cX ?_)))
  rename_i bl
  refine fZ rfl rfl rfl rfl rfl rfl rfl (by decide) rfl (zl) rfl rfl (fun _ _ _ _ _ hp=>hp.sub (by(repeat(first|exact List.sublist_append_left _ _|apply List.Sublist.cons)))) ?_;intro a' c' bZ;refine cX ?_
  first|refine Jp (y:=(⟨(R'.getD s default).ins++[2*((p+k:Nat):Int)],a',c'⟩:cL Int)) rfl rfl rfl (by omega) (by decide) (rfl) rfl (by kernel_rfl) ?_|refine Gk (y:=(⟨(R'.getD s default).ins++[2*((p+k:Nat):Int)],a',c'⟩:cL Int)) rfl rfl rfl (by omega) (by decide) (rfl) rfl (by kernel_rfl) ?_
  refine cX ?_
  refine dc ?_;intro w hp C;refine bL ?_;(repeat(first|(refine ah ?_;refine aH hp ?_)|(refine aI ?_;refine iC hp ?_;intro w hp;refine az ?_)))
  have hp:=(gF _ _ (⟨(R'.getD s default).ins++[2*((p+k:Nat):Int)],a',c'⟩:cL Int) hp.drop).f1
  refine IH (k+1) _ _ _ (by omega) rfl ⟨by omega,R'.set s (⟨(R'.getD s default).ins++[2*((p+k:Nat):Int)],a',c'⟩:cL Int),⟨by rw[List.length_set];exact Eh,?_⟩,?_⟩
  ·rw[mu,rD (by rw[fg];omega),<-Cp,bk]
   rfl
  ·rw[show((p+(k+1):Nat):Int)=((p+k:Nat):Int)+1 by omega]
   exact hp
 ·refine aM ?_;refine aq ?_
  obtain rfl:k=wd:=by omega
  exact⟨R',rfl,⟨Eh,Cp⟩,hp⟩
end Go.Proofs
end
