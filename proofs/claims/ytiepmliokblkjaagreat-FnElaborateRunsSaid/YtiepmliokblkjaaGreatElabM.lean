/- Texts that belong together; each under its stated conditions. -/
import Derived.Test.YtiepmliokblkjaaGreatBrf
import Derived.Test.YtiepmliokblkjaaGreatSweep
import Derived.Test.YtiepmliokblkjaaGreatEvSt
import Derived.Test.YtiepmliokblkjaaGreatFlatI
import Derived.Test.YtiepmliokblkjaaGreatExprW
set_option linter.all false
section
namespace Go.Proofs
open Go.Xw
set_option maxRecDepth 100000
set_option maxHeartbeats 1000000
attribute [local irreducible] ax aE
theorem KP (x:bf)(w0:World)(hX:fG w0 x)(aS:aj x.n):
  bN Tryz.prog 41 [x.v] w0 (fun v w=>∃y,(y.n=tU x.n/\v=y.v)/\Hp w0 w [dv y]):=by
 have hn:=aS.ei
 have n1:=hn.n1
 have n4:=hn.n2
 have f2:=hn.f2
 have vv:=aS.nodes
 have iA:=aS.jR
 have Oo:x.n.af.length=x.af.length:=rfl
 refine eu Tryz.Va ?_;intro C hp;skip;refine bP hp ?_;intro w b1 hx hp;refine az ?_;skip;refine bP hp ?_;intro w b2 hx hp;refine az ?_;refine aI hp ?_
 refine cy Tryz.func104 (v8 x _ hp.dR aS) ?_;rintro _ w ⟨y0,⟨D8,rfl⟩,hq⟩;have hx:=hq.x;have hp:=hp.bJ hq;refine az ?_
 refine bP hp ?_;intro w b3 hx hp;refine az ?_;(repeat(first|(refine ah ?_;refine aI hp ?_)|(refine aH ?_;refine aW hp ?_;intro w hp;refine az ?_)))
 refine cy Tryz.func105 (zg x _ aS) ?_;rintro _ w ⟨b5,c5,rfl,hq⟩;have hx:=hq.x;have hp:=hp.bJ hq;refine az ?_;refine aI hp ?_
 have E':y0.af=[]:=congrArg ao.af D8
 have Sw:y0.aT=x.aT:=congrArg ao.aT D8
 have KO:aU y0.au=(tT x.n []).au:=congrArg ao.au D8
 have th:y0.au.length=x.au.length:=by rw[<-cm y0.au,KO,vt.1,x.fE]
 have Aa:y0.cs=(y0.wA y0.aa y0.ac []).cs:=by unfold bf.cs bf.wA;rw[E']
 have hp:=(kI hp.f2).f6.f6.f4.f3.f5.f5.f6
 rw[E'] at hp
 have hp:=Hp.Ls hp Aa
 refine eg [1,2,3,4,12,13,14] (fun(i:Nat) (_:Option Addr) (_:Nat)=>[(1,.pointer (some ⟨b1,0,none⟩)),(2,.pointer (some ⟨b2,0,none⟩)),(3,.pointer (some ⟨b3,0,none⟩)),(4,.slice b5 (dF x.n) c5),(12,.slice x.aa x.af.length x.ac),(13,.int .i64 x.af.length),(14,.int .i64 (i:Int))])
  (fun i aa ac w'=>i<=x.af.length/\Hp w0 w' [rB b3 33 [.int .i64 y0.aT,.slice y0.sa y0.au.length y0.sc,.slice aa ((cP x.n i).1).length ac,.slice y0.oa y0.outs.length y0.oc],rO 120 2 gh aa ac (cP x.n i).1,rO 3 1 eI b5 c5 ((cP x.n i).2++List.replicate (x.af.length-i) 0),E0 y0.sa y0.sc y0.au,rO 3 1 eI y0.oa y0.oc y0.outs,rB b2 33 (aL Tryz.dY.zero),rB b1 33 x.cs])
  (fun i _ _=>x.af.length-i) 0 y0.aa y0.ac rfl ⟨by omega,hp⟩ ?_
 rintro i aa ac w1 ⟨hi,hp⟩ IH C
 have hl:=lp x.n i
 have hB:=ph aS i hi
 have sE:((cP x.n i).2++List.replicate (x.af.length-i) (0:Int)).length=dF x.n:=by simp;omega
 refine bL ?_
 apply ae<;>intro bD
 ·have aF:i<x.af.length:=by omega
  have hz:(aB x.n+(i:Int)).toNat=bE x.n+i:=by omega
  obtain⟨q1,q2,q3,q4⟩:=aS.tH aF
  have Nu:List.replicate (x.af.length-i) (0:Int)=List.replicate (x.af.length-(i+1)+1) 0:=by rw[show x.af.length-i=x.af.length-(i+1)+1 by omega]
  have l1':aD (a8 (cP x.n i).2 (x.af.getD i default).1) (aB x.n+(cP x.n i).1.length):=(kO aS aF hB).1
  have l2':aD (a8 (cP x.n i).2 (x.af.getD i default).2) (aB x.n+(cP x.n i).1.length):=(kO aS aF hB).2
  have hne5:b5≠none:=bW hp (X:=(cP x.n i).2++List.replicate (x.af.length-i) (0:Int)) (by omega)
  unfold aD at l1' l2'
  have IG:aB (y0.wA aa ac (cP x.n i).1).n=aB x.n:=by rw[eD,eD];show 1+y0.aT+(y0.au.length:Nat)=_;omega
  have hC:ay (y0.wA aa ac (cP x.n i).1).n (a8 (cP x.n i).2 (x.af.getD i default).1) (a8 (cP x.n i).2 (x.af.getD i default).2)=({(y0.wA aa ac (cP x.n i).1).n with af:=(cP x.n (i+1)).1},(gD (aB x.n) (cP x.n i).1 (a8 (cP x.n i).2 (x.af.getD i default).1) (a8 (cP x.n i).2 (x.af.getD i default).2)).2):=by
   rw[rm,IG];rfl
  have SW:xL (y0.wA aa ac (cP x.n i).1):=⟨by show _<=y0.aT/\y0.aT<=_;omega,by show y0.au.length<=_;omega,by show(cP x.n i).1.length<=_;omega⟩
  refine aN ?_;refine bb hp ?_
  refine bP hp ?_;intro w b6 hx hp;refine az ?_;refine aW hp ?_;intro w hp;refine az ?_
  refine fR hp ?_;refine fy ?_
  refine j8 Tryz.func70 (fun F w hp=> ?_);refine bN.mono (iG x _ aS.b) ?_;rintro _ w ⟨rfl,hx⟩;have hp:=hp.ext hx;refine⟨fun _=>hp.sub (by(repeat(first|exact List.sublist_append_left _ _|apply List.Sublist.cons))),_,hp,?_⟩;clear hp;refine cX ?_;refine fy ?_
  refine j8 Tryz.func107 (fun F w hp=> ?_);refine bN.mono (qX _ _ _ _ sE (x.af.getD i default).1 _ hp.pre.rd q1 (by omega) (by omega)) ?_;rintro _ w ⟨rfl,hx⟩;have hp:=hp.ext hx;refine⟨fun _=>hp.sub (by(repeat(first|exact List.sublist_append_left _ _|apply List.Sublist.cons))),_,hp,?_⟩;clear hp;refine cX ?_;refine fy ?_
  refine j8 Tryz.func107 (fun F w hp=> ?_);refine bN.mono (qX _ _ _ _ sE (x.af.getD i default).2 _ hp.pre.rd q3 (by omega) (by omega)) ?_;rintro _ w ⟨rfl,hx⟩;have hp:=hp.ext hx;refine⟨fun _=>hp.sub (by(repeat(first|exact List.sublist_append_left _ _|apply List.Sublist.cons))),_,hp,?_⟩;clear hp;refine cX ?_
  rw[oD,oD]
  refine Pz ?_;refine Pz ?_
  refine j8 Tryz.func106 (fun F w hp=> ?_);refine bN.mono (JC (y0.wA aa ac (cP x.n i).1) b3 (a8 (cP x.n i).2 (x.af.getD i default).1) (a8 (cP x.n i).2 (x.af.getD i default).2) hp SW (by show(cP x.n i).1.length<=_;omega) (by omega) (by omega)) ?_;rintro _ w ⟨kv,kx,rfl,hp⟩;refine⟨fun hq=>Bool.noConfusion (hq.symm.trans (by kernel_rfl:bH _ _=false)),_,hp,?_⟩;clear hp;refine cX ?_;refine Gl rfl rfl rfl (by omega) (by decide) rfl rfl (by kernel_rfl) ?_;refine cX ?_
  refine dc ?_;intro w hp C;refine bL ?_
  rw[hC,hz,Nu,show bE x.n+i=(cP x.n i).2.length by omega,tR] at hp
  refine IH (i+1) kv kx _ _ _ (by omega) rfl ⟨by omega,?_⟩
  exact hp.f2.drop
 ·refine aM ?_;refine aI hp ?_
  obtain rfl:i=x.af.length:=by omega
  rw[Nat.sub_self,List.replicate_zero,List.append_nil] at hp sE
  refine cy Tryz.func108 (v9 b3 (y0.wA aa ac (cP x.n x.af.length).1) x b5 c5 (dF x.n) (cP x.n x.af.length).2 sE (hp.f2.f2.f4.f4.f4) aS (Nat.le_refl _) (by omega) (by show _<=y0.au.length;omega) (by show y0.au.length<=_;omega)) ?_;rintro _ w ⟨R,oa,oc,rfl,⟨hR,wJ⟩,hp⟩;refine az ?_;refine aI hp ?_
  have fF:R.length=y0.au.length:=hR
  have FW:aU R=x.n.au.map fun s=>⟨s.kind,s.init,dZ (cP x.n x.af.length).2 s.ins⟩:=by
   rw[wJ]
   show lY (FU (aU y0.au) x.n _) x.au.length (aU y0.au)=_
   rw[KO,<-x.fE]
   exact Cr vt.1 vt.2
  have cj:(bf.mk y0.aT R y0.sa y0.sc (cP x.n x.af.length).1 aa ac (dZ (cP x.n x.af.length).2 x.outs) oa oc).n=Mr x.n:=by
   unfold bf.n
   rw[FW,Sw]
   rfl
  have hp:=fe (x:=⟨y0.aT,R,y0.sa,y0.sc,(cP x.n x.af.length).1,aa,ac,dZ (cP x.n x.af.length).2 x.outs,oa,oc⟩) (hp.f2.f3.f3)
  refine gq ?_
  show ax _ _ _ _ _ (.act (.call _ [.agg ⟨[.int .i64 y0.aT,.slice y0.sa y0.au.length y0.sc,.slice aa (cP x.n x.af.length).1.length ac,.slice oa (dZ (cP x.n x.af.length).2 x.outs).length oc]⟩]) _)
  rw[<-fF]
  refine cy Tryz.func109 (Nt ⟨y0.aT,R,y0.sa,y0.sc,(cP x.n x.af.length).1,aa,ac,dZ (cP x.n x.af.length).2 x.outs,oa,oc⟩ _ hp.dR (by rw[cj];exact rn aS)) ?_;rintro _ w ⟨z,⟨hz,rfl⟩,hq⟩;have hx:=hq.x;have hp:=hp.bJ hq;refine az ?_;refine aW hp ?_;intro w hp;refine az ?_;refine iD hp rfl ?_
  rw[cj] at hz
  exact⟨z,⟨hz,rfl⟩,Hp.tk hp 1⟩
theorem Eh (y x:bf)(ta:Option Addr)(tc m:Nat)(to:List Int)(hm:to.length=m)(A:List (Int×Int)){w0 w:World}{L:List bh}(hp:Hp w0 w (dv y::L))[hX:lJ w0 L x][hT:gm w0 L ta 1 eI to](aS:aj x.n)(hy:y.n=ky x.n A)(hB:tS (aB x.n) A to)(vv:dF x.n<=m)(hmb:m<=1000000):
  bN Tryz.prog 87 [y.v,x.v,.slice ta m tc] w (fun v w'=>∃z,(z.n=gE (jI x.n A to)/\v=z.v)/\Hp w0 w' (dv z::L)):=by
 subst hm
 have hn:=aS.ei
 have n1:=hn.n1
 have n2:=hn.n2
 have iA:=aS.jR
 have sY:=x.fE
 have pJ:∀l,aD l (ag x.n)->0<=l/\l/2<to.length:=fun l h=>by unfold aD at h;omega
 have E':y.af=A:=congrArg ao.af hy
 have Sw:y.aT=x.aT:=congrArg ao.aT hy
 have KO:aU y.au=(ky x.n A).au:=congrArg ao.au hy
 have th:y.au.length=x.au.length:=by rw[<-cm y.au,KO,vu.1,x.fE]
 refine vJ Tryz.Vz ?_;intro C
 refine bP hp ?_;intro w b3 hx hp;refine az ?_
 refine bP hp ?_;intro w b4 hx hp;refine az ?_
 refine bP hp ?_;intro w b6 hx hp;refine az ?_
 have hp:=ou ((kI hp.f3).f2.f2.f3.f4.f5.f5)
 refine gK [2,3,4,6,7] (fun(i:Nat) (_:List dO)=>[(2,.slice ta to.length tc),(3,.pointer (some ⟨b3,0,none⟩)),(4,.pointer (some ⟨b4,0,none⟩)),(6,.pointer (some ⟨b6,0,none⟩)),(7,.int .i64 (i:Int))])
  (fun i R w'=>(i<=x.au.length/\R.length=y.au.length/\aU R=lY (FU (aU y.au) x.n to) i (aU y.au))/\Hp w0 w' (rO 68 3 ke y.sa y.sc R::fz R::rB b3 33 y.cs::rB b4 33 x.cs::rB b6 33 (aL Tryz.dY.zero)::rO 120 2 gh y.aa y.ac y.af::rO 3 1 eI y.oa y.oc y.outs::L)) (fun i _=>x.au.length-i) 0 y.au rfl
  ⟨⟨by omega,rfl,by rw[kJ]⟩,hp⟩ ?_
 rintro i R w1 ⟨⟨hi,hR,wJ⟩,hp⟩ IH C
 refine bL ?_;refine aI hp ?_
 apply ae<;>intro bD
 ·have aF:i<x.au.length:=by omega
  have pW:=aS.ins aF
  have OV:=x.rT i
  have hq:∀j,j<(x.au.getD i default).ins.length->0<=(x.au.getD i default).ins.getD j default/\(x.au.getD i default).ins.getD j default/2<to.length:=fun j hj=>
   pJ _ (aS.ck (aK (show i<x.n.au.length by omega)) _ (by rw[OV];exact aK hj))
  have lN:=hX.in_ aF
  have fD:y.sa≠none:=bW hp (X:=R) (by omega)
  have hne2:x.sa≠none:=bW hp (X:=x.au) (by omega)
  refine aN ?_
  refine fR hp ?_;(repeat(refine gu ?_;first|refine fy ?_|refine sK rfl (by omega) rfl rfl rfl ?_))
  refine j8 Tryz.func146 (fun F w hp=> ?_);refine bN.mono (qY _ _ _ _ to (x.au.getD i default).ins _ _ rfl rfl _ hp.pre.rd hp.pre.rd hq (by omega) (by omega)) ?_;rintro _ w ⟨r,e,rfl,hq⟩;have hp:=hp.eU hq;refine⟨fun _=>hp.sub (by(repeat(first|exact List.sublist_append_left _ _|apply List.Sublist.cons))),_,hp,?_⟩;clear hp;refine cX ?_
  first|refine Bt ({R.getD i default with ins:=dZ to (x.au.getD i default).ins,ia:=r,ic:=e}) rfl rfl rfl (by omega) (by decide) rfl rfl (by kernel_rfl) ?_|refine Gm ({R.getD i default with ins:=dZ to (x.au.getD i default).ins,ia:=r,ic:=e}) rfl rfl rfl (by omega) (by decide) rfl rfl (by kernel_rfl) ?_
  refine cX ?_
  refine dc ?_;intro w hp C;refine bL ?_
  obtain⟨Q,hq,gF⟩:=nC hp.f2 (i:=i) (by omega)
  have hp:=(gF _ _ {R.getD i default with ins:=dZ to (x.au.getD i default).ins,ia:=r,ic:=e} hq.drop.f1).f1
  refine IH (i+1) _ _ _ _ (by omega) rfl ⟨⟨by omega,by simp;omega,?_⟩,hp⟩
  have Db:i<(aU y.au).length:=by rw[cm];omega
  rw[pI,wJ,<-mI (f:=FU (aU y.au) x.n to) Db]
  congr 1
  have h1:(R.getD i default).s=(aU y.au).getD i default:=by
   rw[<-gL,wJ,wI (Nat.le_refl _) (by omega)]
  unfold FU
  rw[<-h1,OV]
  rfl
 ·refine aM ?_;refine aI hp ?_
  obtain rfl:i=x.au.length:=by omega
  refine cy Tryz.func146 (qY _ _ _ _ to x.outs _ _ rfl rfl _ hp.rd hp.rd (fun j hj=>pJ _ (aS.out _ (aK hj))) (by omega) (by omega)) ?_;rintro _ w ⟨r,e,rfl,hq⟩;have hx:=hq.x;have hp:=hp.bJ hq;refine az ?_;(repeat(first|(refine ah ?_;refine aI hp ?_)|(refine aH ?_;refine iE hp ?_;intro w hp;refine az ?_)))
  have FW:aU R=x.n.au.map fun s=>⟨s.kind,s.init,dZ to s.ins⟩:=by
   rw[wJ,KO,<-x.fE]
   exact Cr vu.1 vu.2
  have hZ:(bf.mk y.aT R y.sa y.sc y.af y.aa y.ac (dZ to x.outs) r e).n=jI x.n A to:=by
   unfold bf.n
   rw[FW,Sw,E']
   rfl
  have Sx:aj (bf.mk y.aT R y.sa y.sc y.af y.aa y.ac (dZ to x.outs) r e).n:=by rw[hZ];exact BJ aS hB vv
  have hp:=fe (x:=⟨y.aT,R,y.sa,y.sc,y.af,y.aa,y.ac,dZ to x.outs,r,e⟩) ((gX (hp.f2.f2)).f1.f5.f2)
  refine gq ?_
  show ax _ _ _ _ _ (.act (.call _ [.agg ⟨[.int .i64 y.aT,.slice y.sa y.au.length y.sc,.slice y.aa y.af.length y.ac,.slice r (dZ to x.outs).length e]⟩]) _)
  rw[<-hR]
  refine cy Tryz.func147 (Eg ⟨y.aT,R,y.sa,y.sc,y.af,y.aa,y.ac,dZ to x.outs,r,e⟩ _ hp.dR Sx.S' Sx.W) ?_;rintro _ w ⟨z,⟨hz,rfl⟩,hq⟩;have hx:=hq.x;have hp:=hp.bJ hq;refine az ?_;refine aW hp ?_;intro w hp;refine az ?_;refine iD hp rfl ?_
  rw[rp Sx,hZ] at hz
  refine⟨z,⟨hz,rfl⟩,?_⟩
  exact hp.f1.drop.f1.drop.f1.drop.f1.drop.f1.drop
theorem KQ {n:ao}(aS:aj n){A:List (Int×Int)}{to:List Int}(hB:tS (aB n) A to){a b:Int}(ha:aD a (aB n+A.length))(hb:aD b (aB n+A.length)):
  dG (ky n A) [a,b] (ay (ky n A) a b)=if(gD (aB n) A a b).2<0 then(ky n A,-1) else(ky n (gD (aB n) A a b).1,(gD (aB n) A a b).2):=by
 have hz:=GF aS hB
 have vv:ag (ky n A)=aB n+A.length:=by have:=kY n A;unfold aB at this;unfold ag;rw[this];rfl
 have hC:ay (ky n A) a b=(ky n (gD (aB n) A a b).1,(gD (aB n) A a b).2):=by
  rw[rm,kY];rfl
 have hv:aj (ky n A)/\∀l,l∈[a,b]->aD l (ag (ky n A)):=⟨hz,cO.2 (by rw[vv];exact⟨ha,hb⟩)⟩
 split
 ·rename_i h
  exact gZ hv (by rw[hC];exact h)
 ·rename_i h
  rw[dS hv (by rw[hC];exact h),hC]
theorem FX (x:bf)(w0:World)(hX:fG w0 x)(hS:kK x.n)(hW:nq x.n):
  bN Tryz.prog 31 [x.v] w0 (fun v w=>∃y,(y.n=Au x.n (tU x.n)/\v=y.v)/\Hp w0 w [dv y]):=by
 refine eu Tryz.U4 ?_;intro C hp;skip;refine bP hp ?_;intro w b1 hx hp;refine az ?_;skip;refine bP hp ?_;intro w b2 hx hp;refine az ?_;refine aI hp ?_
 by_cases aS:aj x.n
 ·have hn:=aS.ei
  have n1:=hn.n1
  have n4:=hn.n2
  have f2:=hn.f2
  have vv:=aS.nodes
  have iA:=aS.jR
  have Oo:x.n.af.length=x.af.length:=rfl
  have OT:=kN x.n
  rw[rp aS]
  refine bQ hp Tryz.func77 ((eZ x _ hp.dR hS hW).tt (fj aS)) ?_;intro w hx hp
  refine aM ?_;refine aI hp ?_
  refine cy Tryz.func85 (zh x _ hp.dR aS hS) ?_;rintro _ w ⟨y0,b5,c5,⟨D8,rfl⟩,hq⟩;refine az ?_
  have hp:=hp.call2 hq
  skip
  refine bP hp ?_;intro w b3 hx hp;refine az ?_;refine aW hp ?_;intro w hp;refine az ?_
  refine jv [1,2,3,4,5] (fun(i:Nat) (_:bf) (tb:Option Addr) (tc:Nat)=>[(1,.pointer (some ⟨b1,0,none⟩)),(2,.pointer (some ⟨b2,0,none⟩)),(3,.pointer (some ⟨b3,0,none⟩)),(4,.slice tb (cP x.n i).2.length tc),(5,.int .i64 (i:Int))])
   (fun i y tb tc w'=>(i<=x.af.length/\y.n=ky x.n (cP x.n i).1)/\Hp w0 w' [rB b3 33 y.cs,dv y,rO 3 1 eI tb tc (cP x.n i).2,rB b2 33 (aL Tryz.dY.zero),rB b1 33 x.cs])
   (fun i _ _ _=>x.af.length-i) 0 y0 b5 c5 rfl ⟨⟨by omega,D8⟩,hp⟩ ?_
  rintro i y tb tc w1 ⟨⟨hi,hy⟩,hp⟩ IH C
  have hl:=lp x.n i
  have hB:=ph aS i hi
  have WB:=GF aS hB
  refine bL ?_;refine aI hp ?_
  apply ae<;>intro bD
  ·have aF:i<x.af.length:=by omega
   obtain⟨q1,q2,q3,q4⟩:=aS.tH aF
   have l1:aD (a8 (cP x.n i).2 (x.af.getD i default).1) (aB x.n+(cP x.n i).1.length):=(kO aS aF hB).1
   have l2:aD (a8 (cP x.n i).2 (x.af.getD i default).2) (aB x.n+(cP x.n i).1.length):=(kO aS aF hB).2
   have CY:=KQ aS hB l1 l2
   have Gf:¬(gD (aB x.n) (cP x.n i).1 (a8 (cP x.n i).2 (x.af.getD i default).1) (a8 (cP x.n i).2 (x.af.getD i default).2)).2<0:=by
    rcases hB.addLit l1 l2 with h|⟨_,h⟩
    ·unfold aD at h;omega
    ·omega
   rw[if_neg Gf] at CY
   have ME:=l1.i64 (by omega)
   have mh:=l2.i64 (by omega)
   refine aN ?_
   refine fR hp ?_;(repeat(refine gu ?_;first|refine fy ?_|refine sK rfl (by omega) rfl rfl rfl ?_|refine tE rfl (by omega) (by omega) rfl rfl rfl ?_))
   refine j8 Tryz.func86 (fun F w hp=> ?_);refine bN.mono (eF y (a8 (cP x.n i).2 (x.af.getD i default).1) (a8 (cP x.n i).2 (x.af.getD i default).2) _ (sN (hp.pre.take (dv y))) (by rw[hy];exact WB.S') (by rw[hy];exact WB.W) ME mh) ?_;rintro _ w ⟨z,⟨hz,rfl⟩,hq⟩;have hp:=hp.eU hq;refine⟨fun _=>hp.sub (by(repeat(first|exact List.sublist_append_left _ _|apply List.Sublist.cons))),_,hp,?_⟩;clear hp;refine cX ?_
   (first|refine oq ?_|refine iS rfl ?_);intro b6;refine cX ?_;refine eO rfl rfl rfl rfl (by kernel_rfl) ?_;refine cX ?_
   refine dc ?_;intro w hp C;refine bL ?_;(repeat(first|(refine ah ?_;refine aI hp ?_)|(refine aH ?_;refine aW hp ?_;intro w hp;refine az ?_)|(refine bK ?_;refine gG hp ?_;intro w _ hx hp;refine az ?_)))
   rw[hy,CY] at hz
   refine gT hp ?_;intro Pv Sd w hp bZ;refine az ?_
   rw[hy,CY] at hp
   refine IH (i+1) z Pv Sd _ _ _ (by omega) ?_ ⟨⟨by omega,hz⟩,Hp.tk (hp.f7.f7.f7.f5.f6) 5⟩
   rw[hy,CY]
   rfl
  ·refine aM ?_;(repeat(refine aI hp ?_))
   obtain rfl:i=x.af.length:=by omega
   refine cy Tryz.func87 (Eh y x tb tc _ (cP x.n x.af.length).2 rfl (cP x.n x.af.length).1 hp.f1 aS hy hB (by omega) (by omega)) ?_;rintro _ w ⟨z,⟨hz,rfl⟩,hp⟩;refine az ?_;refine aW hp ?_;intro w hp;refine az ?_;refine iD hp rfl ?_
   exact⟨z,⟨hz,rfl⟩,Hp.tk hp 1⟩
 ·refine bQ hp Tryz.func77 ((eZ x _ hp.dR hS hW).ff (cY aS)) ?_;intro w hx hp
  refine aN ?_;refine aW hp ?_;intro w hp;refine az ?_;refine iD hp rfl ?_
  rw[Dl aS]
  exact⟨Nr,⟨rfl,rfl⟩,Hp.tk (OW hp) 1⟩
end Go.Proofs
end
section
namespace Go.Xw
open Go.Proofs
set_option maxHeartbeats 1000000
theorem Hp.f8 {w0 w:World}{R A_ B_ C_ D_ E_ F_ G_ H_:bh}{L:List bh}(h:Hp w0 w (A_::B_::C_::D_::E_::F_::G_::H_::R::L)):Hp w0 w (R::A_::B_::C_::D_::E_::F_::G_::H_::L):=h.perm (List.perm_middle (l₁:=[A_,B_,C_,D_,E_,F_,G_,H_]))
theorem Hp.f9 {w0 w:World}{R A_ B_ C_ D_ E_ F_ G_ H_ I_:bh}{L:List bh}(h:Hp w0 w (A_::B_::C_::D_::E_::F_::G_::H_::I_::R::L)):Hp w0 w (R::A_::B_::C_::D_::E_::F_::G_::H_::I_::L):=h.perm (List.perm_middle (l₁:=[A_,B_,C_,D_,E_,F_,G_,H_,I_]))
theorem Hp.f10 {w0 w:World}{R A_ B_ C_ D_ E_ F_ G_ H_ I_ J_:bh}{L:List bh}(h:Hp w0 w (A_::B_::C_::D_::E_::F_::G_::H_::I_::J_::R::L)):Hp w0 w (R::A_::B_::C_::D_::E_::F_::G_::H_::I_::J_::L):=h.perm (List.perm_middle (l₁:=[A_,B_,C_,D_,E_,F_,G_,H_,I_,J_]))
theorem Hp.f11 {w0 w:World}{R A_ B_ C_ D_ E_ F_ G_ H_ I_ J_ K_:bh}{L:List bh}(h:Hp w0 w (A_::B_::C_::D_::E_::F_::G_::H_::I_::J_::K_::R::L)):Hp w0 w (R::A_::B_::C_::D_::E_::F_::G_::H_::I_::J_::K_::L):=h.perm (List.perm_middle (l₁:=[A_,B_,C_,D_,E_,F_,G_,H_,I_,J_,K_]))
def qA (Q:List fS):List dO:=Q.map fun s=>⟨s.kind,s.init,[],none,0⟩
theorem Cs (Q:List fS):(qA Q).length=Q.length:=by simp[qA]
theorem Ct (Q P:List fS):qA (Q++P)=qA Q++qA P:=by simp[qA]
theorem Nv (Q:List fS):aU (qA Q)=Q.map nG:=by simp[qA,aU,dO.s,nG]
def gA (Q:List fS):List dO:=Q.map fun s=>⟨s.kind,s.init,s.ins,none,0⟩
theorem Sy (Q:List fS):(gA Q).length=Q.length:=by simp[gA]
theorem Nw (Q:List fS):aU (gA Q)=Q:=by
 unfold gA aU
 rw[List.map_map]
 exact List.map_id' Q
def gN (N:ao)(sa:Option Addr)(sc:Nat):bf:=⟨N.aT,gA N.au,sa,sc,N.af,none,0,N.outs,none,0⟩
theorem WC (N:ao)(sa:Option Addr)(sc:Nat):(gN N sa sc).n=N:=by
 show(⟨N.aT,aU (gA N.au),N.af,N.outs⟩:ao)=N
 rw[Nw]
theorem zi {w0 w:World}{L:List bh}:∀(Q P:List fS),Hp w0 w (fz (qA P)::L)->Hp w0 w (fz (qA (P++Q))::L)
 |[],P,h=>by rw[List.append_nil];exact h
 |s::Q,P,h=>by
  have h2:=zi Q (P++[s]) (by
   rw[Ct]
   exact HS (y:=⟨s.kind,s.init,[],none,0⟩) h ((Hp.nil w).eH (Ext.refl _) (dk.nil _ _ _ _ _)))
  rw[List.append_assoc] at h2
  exact h2
theorem Iw {w0 w:World}{L:List bh}(Q:List fS)(h:Hp w0 w L):Hp w0 w (fz (qA Q)::L):=zi Q [] (ot h)
theorem iM {n:aQ}(hm:aV n)(k:Int):∀i:Nat,i<=n.sg.length->dU n k i<=4*i
 |0,_=>Nat.le_refl _
 |i+1,hi=>by
  have ih:=iM hm k i (by omega)
  have hw:=sW hm (s:=(i:Nat)) (by unfold dr;omega)
  have MU:=oL hm (s:=(i:Nat)) (by unfold dr;omega)
  rw[dU]
  split<;>omega
theorem tf {n:aQ}(hm:aV n):∀j:Nat,j<=n.ms.length->jc n j<=4*j
 |0,_=>Nat.le_refl _
 |j+1,hj=>by
  have ih:=tf hm j (by omega)
  have ho:=(hm.ms j (by omega)).2.2.2.1
  have hw:=sW hm ho
  have MU:=oL hm ho
  rw[jc]
  omega
theorem KR (R:List yh)(s:Int)(j:Nat):(hJ R s j).toNat<=j:=by have:=nX R s j;omega
theorem Sz {n:aQ}(hm:aV n){j s:Nat}(hj:j<=n.ms.length)(hs:s<n.sg.length):wB n j s<=8:=by
 have hw:=sW hm (s:=(s:Nat)) (by unfold dr;omega)
 have MU:=oL hm (s:=(s:Nat)) (by unfold dr;omega)
 have h1:=KR n.ms (s:Nat) j
 have h3:=hm.l3
 unfold wB
 split
 ·omega
 ·have:=Nat.mul_le_mul (show(hJ n.ms (s:Nat) j).toNat<=2 by omega) (show wN n (s:Nat)<=4 by omega)
  omega
structure SA (n:aQ)(st:List (List Int)×Nat):Prop where
 len:st.1.length=n.sg.length
 row:∀s,s<n.sg.length->(st.1.getD s default).length<=8
 pos:st.2<=1000
theorem OY {n:aQ}(hm:aV n){i:Nat}(hi:i<=n.sg.length):SA n (uB n i):=by
 obtain⟨h1,h2⟩:=BS n i hi
 have h3:=iM hm 0 i hi
 have h4:=hm.l1
 refine⟨h1.len,fun s hs=> ?_,by omega⟩
 rw[(h1.row s hs).1]
 have hw:=sW hm (s:=(s:Nat)) (by unfold dr;omega)
 have MU:=oL hm (s:=(s:Nat)) (by unfold dr;omega)
 split<;>omega
theorem OZ {n:aQ}(hm:aV n){i:Nat}(hi:i<=n.sg.length):SA n (vd n i):=by
 obtain⟨h1,h2⟩:=BT n i hi
 have h3:=iM hm 0 n.sg.length (Nat.le_refl _)
 have h5:=iM hm 3 i hi
 have h4:=hm.l1
 refine⟨h1.len,fun s hs=> ?_,by omega⟩
 rw[(h1.row s hs).1]
 have hw:=sW hm (s:=(s:Nat)) (by unfold dr;omega)
 have MU:=oL hm (s:=(s:Nat)) (by unfold dr;omega)
 split<;>omega
theorem O0 {n:aQ}(hm:aV n){j:Nat}(hj:j<=n.ms.length):SA n (pS n j):=by
 obtain⟨h1,h2⟩:=pv hm j hj
 have h3:=iM hm 0 n.sg.length (Nat.le_refl _)
 have h5:=iM hm 3 n.sg.length (Nat.le_refl _)
 have h6:=tf hm j hj
 have h4:=hm.l1
 have h7:=hm.l3
 refine⟨h1.len,fun s hs=> ?_,by omega⟩
 rw[(h1.row s hs).1]
 exact Sz hm hj hs
theorem mv {α:Type}(R:List (cL α))(i:Nat)(y:cL α):aJ (R.set i y)=(aJ R).set i y.ins:=by simp[aJ,List.map_set]
theorem AY (N:ao)(q:Nat)(bits:List Int):∀k,(ji N q bits k).af=N.af
 |0=>rfl
 |k+1=>AY N q bits k
theorem AZ (sig:List (List Int))(x:yh)(N:ao)(q:Nat):∀k,(l8 sig x N q k).af=N.af
 |0=>rfl
 |k+1=>AZ sig x N q k
theorem A0 (n:aQ)(sig:List (List Int))(N:ao)(q:Nat):∀j,(dj n sig N q j).1.af=N.af
 |0=>rfl
 |j+1=>by rw[dj];exact(AZ _ _ _ _ _).trans (A0 n sig N q j)
def zj:bf:=⟨0,[],none,0,[],none,0,[],none,0⟩
theorem oQ {w0 w:World}{L:List bh}(h:Hp w0 w L):Hp w0 w (dv zj::L):=by
 have h1:Hp w0 w (rO 3 1 eI none 0 ([]:List Int)::L):=h.eH (Ext.refl _) (dk.nil _ _ _ _ _)
 have h2:Hp w0 w (rO 120 2 gh none 0 ([]:List (Int×Int))::rO 3 1 eI none 0 ([]:List Int)::L):=h1.eH (Ext.refl _) (dk.nil _ _ _ _ _)
 have h3:Hp w0 w (rO 68 3 ke none 0 ([]:List dO)::fz []::rO 120 2 gh none 0 ([]:List (Int×Int))::rO 3 1 eI none 0 ([]:List Int)::L):=(ot h2).eH (Ext.refl _) (dk.nil _ _ _ _ _)
 exact fe (x:=zj) (gX h3)
theorem we (Q:List dO)(i:Nat)(y:dO):aU (Q.set i y)=(aU Q).set i y.s:=by simp[aU,List.map_set]
theorem Ei {Q:List dO}{M:ao}{q:Nat}(h:aU Q=zw M.au q)(hq:q<M.au.length)(l:List Int)(a:Option Addr)(c:Nat):aU (Q.set q {Q.getD q default with ins:=l,ia:=a,ic:=c})=zw (lD M q l).au (q+1):=by
 rw[we,MM hq,<-h,gL];rfl
end Go.Xw
namespace Go.Proofs
open Go.Xw
set_option maxRecDepth 100000
set_option maxHeartbeats 2000000
theorem KS (w0:World)(R:List (cL Int))(n:Nat)(hn:R.length=n)(sa:Option Addr)(sc:Nat)(bx p wd:Nat)(hw:1<=wd/\wd<=4)(y:bf)(ops:List dK)(oa:Option Addr)(oc:Nat)(jL:ops.length<=15)(fF:n<=1000)(pU:∀i,i<R.length->(R.getD i default).ins.length<=1000)(t:cI)(ht:ops=t.dh)(aS:t.ok n)(s:ao×Bool)(hl:s.1={y.n with af:=s.1.af})(hs:aj s.1)(hv:∀l,l∈aJ R->∀z,z∈l->aD z (ag s.1))(aa:Option Addr)(ac:Nat)(w1:World)(L:List bh)[h1:gm w0 L sa 1 jl R][h2:kp w0 L 1 eI R][h3:gm w0 L oa 3 kf ops]
  (hp:Hp w0 w1 (rB bx 88 [.pointer (some ⟨p,0,none⟩),.slice sa n sc,.int .i64 (wd:Int),.bool s.2]::rB p 33 (y.wA aa ac s.1.af).cs::rO 120 2 gh aa ac s.1.af::L)):
  bN Tryz.prog 40 [.pointer (some ⟨bx,0,none⟩),.slice oa ops.length oc,.int .i64 0] w1 (fun v w'=>∃b c kv kx q,v= .tuple ⟨[.slice b (dD a6 (aJ R) wd t s).2.length c,.int .i64 q]⟩/\Hp w0 w' (rO 3 1 eI b c (dD a6 (aJ R) wd t s).2::rB bx 88 [.pointer (some ⟨p,0,none⟩),.slice sa n sc,.int .i64 (wd:Int),.bool (dD a6 (aJ R) wd t s).1.2]::rB p 33 (y.wA kv kx (dD a6 (aJ R) wd t s).1.1.af).cs::rO 120 2 gh kv kx (dD a6 (aJ R) wd t s).1.1.af::L)):=by
 subst hn
 have h:=s9 w0 R sa sc bx p wd hw y ops oa oc jL fF pU t [] [] (by simpa using ht) aS s hl hs hv aa ac w1 L h1 h2 h3 hp
 refine bN.mono h ?_
 rintro v w ⟨b,c,kv,kx,h4,h5⟩
 exact⟨b,c,kv,kx,_,h4,h5⟩
attribute [local irreducible] ax aE
theorem zk (x:bm)(w0:World)(hM:iJ w0 x)(b1 b5 b6 bs p:Nat)(s:Nat)(sv:Int)(hsv:sv=(s:Nat))(hs:s<x.sg.length)(wd:Nat)(hw:(x.sg.getD s default).width=(wd:Nat))(Ky:wd<=4)(sY:x.sg.length<=30)(R:List (cL Int))(fF:R.length=x.sg.length)(wJ:(R.getD s default).ins.length<=8)(jP:p<=1000)(w:World)(L:List bh)
  (hp:Hp w0 w (rO 31 1 jl (some ⟨bs,0,none⟩) x.sg.length R::cD 3 1 eI R::rB b6 3 [.int .i64 ((p:Nat):Int)]::rB b5 50 [.slice (some ⟨bs,0,none⟩) x.sg.length x.sg.length]::rB b1 41 x.cs::L)):
  bN Tryz.prog 38 [.int .i64 sv,.pointer (some ⟨b1,0,none⟩),.pointer (some ⟨b5,0,none⟩),.pointer (some ⟨b6,0,none⟩)] w (fun v w'=>∃R',v= .tuple ⟨[]⟩/\(R'.length=R.length/\aJ R'=(iX (aJ R,p) s wd).1)/\
   Hp w0 w' (rO 31 1 jl (some ⟨bs,0,none⟩) x.sg.length R'::cD 3 1 eI R'::rB b6 3 [.int .i64 ((p+wd:Nat):Int)]::rB b5 50 [.slice (some ⟨bs,0,none⟩) x.sg.length x.sg.length]::rB b1 41 x.cs::L)):=by
 subst hsv
 refine vJ Tryz.U7 ?_;intro C
 skip
 refine aR [0,1,2,3,5] (fun(k:Nat)=>[(0,.int .i64 ((s:Nat):Int)),(1,.pointer (some ⟨b1,0,none⟩)),(2,.pointer (some ⟨b5,0,none⟩)),(3,.pointer (some ⟨b6,0,none⟩)),(5,.int .i64 (k:Int))])
  (fun k w'=>k<=wd/\∃R',(R'.length=R.length/\aJ R'=(iX (aJ R,p) s k).1)/\Hp w0 w' (rO 31 1 jl (some ⟨bs,0,none⟩) x.sg.length R'::cD 3 1 eI R'::rB b6 3 [.int .i64 ((p+k:Nat):Int)]::rB b5 50 [.slice (some ⟨bs,0,none⟩) x.sg.length x.sg.length]::rB b1 41 x.cs::L)) (fun k=>wd-k) 0 rfl ⟨by omega,R,⟨rfl,by rw[rE (by rw[fh];omega)]⟩,hp⟩ ?_
 clear hp
 rintro k w1 ⟨hk,R',⟨Ej,Cu⟩,hp⟩ IH C
 refine bL ?_;(repeat(refine ah ?_;first|refine aI hp ?_|refine dg hp ?_))
 apply ae<;>intro bD
 ·have aF:k<wd:=by omega
  have fD:(some ⟨bs,0,none⟩:Option Addr)≠none:=by simp
  have sb:(R'.getD s default).ins.length<=20:=by
   rw[<-bk,Cu]
   show(((aJ R).set s ((aJ R).getD s default++jt p k)).getD s default).length<=20
   rw[cH (by rw[fh];omega),if_pos rfl,List.length_append,bk,oK]
   omega
  refine aN ?_
  obtain⟨Q,hq,gF⟩:=oJ hp.f1 (show s<R'.length by omega)
  clear hp
  have hp:=hq
  clear hq
  refine Br hp (Hp.drop hp) (by kernel_rfl) (by kernel_rfl) rfl rfl ?_;(repeat(first|(refine gu ?_;first|refine fy ?_|refine jE rfl (by omega) rfl rfl rfl ?_)|(refine qw ?_;refine lI rfl rfl rfl rfl rfl rfl rfl rfl rfl rfl ?_;intro _;refine cX ?_)))
  rename_i bl
  refine fZ rfl rfl rfl rfl rfl rfl rfl (by decide) rfl (zl) rfl rfl (fun _ _ _ _ _ hp=>hp.sub (by(repeat(first|exact List.sublist_append_left _ _|apply List.Sublist.cons)))) ?_;intro a' c' bZ;refine cX ?_
  first|refine Jq (y:=(⟨(R'.getD s default).ins++[2*((p+k:Nat):Int)],a',c'⟩:cL Int)) rfl rfl rfl (by omega) (by decide) (rfl) rfl (by kernel_rfl) ?_|refine Gl (y:=(⟨(R'.getD s default).ins++[2*((p+k:Nat):Int)],a',c'⟩:cL Int)) rfl rfl rfl (by omega) (by decide) (rfl) rfl (by kernel_rfl) ?_
  refine cX ?_
  refine dc ?_;intro w hp C;refine bL ?_;(repeat(first|(refine ah ?_;refine aI hp ?_)|(refine aH ?_;refine iE hp ?_;intro w hp;refine az ?_)))
  have hp:=(gF _ _ (⟨(R'.getD s default).ins++[2*((p+k:Nat):Int)],a',c'⟩:cL Int) hp.drop).f1
  refine IH (k+1) _ _ _ (by omega) rfl ⟨by omega,R'.set s (⟨(R'.getD s default).ins++[2*((p+k:Nat):Int)],a',c'⟩:cL Int),⟨by rw[List.length_set];exact Ej,?_⟩,?_⟩
  ·rw[mv,rF (by rw[fh];omega),<-Cu,bk]
   rfl
  ·rw[show((p+(k+1):Nat):Int)=((p+k:Nat):Int)+1 by omega]
   exact hp
 ·refine aM ?_;refine aq ?_
  obtain rfl:k=wd:=by omega
  exact⟨R',rfl,⟨Ej,Cu⟩,hp⟩
end Go.Proofs
end
