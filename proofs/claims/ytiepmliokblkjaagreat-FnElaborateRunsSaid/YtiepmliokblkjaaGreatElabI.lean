/- The contract of the program's Elaborate; under its stated conditions. -/
import Derived.Test.YtiepmliokblkjaaGreatBrf
import Derived.Test.YtiepmliokblkjaaGreatElabM
set_option linter.all false
namespace Go.Proofs
open Go.Xw
set_option maxRecDepth 100000
set_option maxHeartbeats 8000000
attribute [local irreducible] ax aE
theorem FZ (x:bm)(w0:World)(hM:iJ w0 x)(hS:qL x.n)(hW:qM x.n):
  bN Tryz.prog 8 [x.v] w0 (fun v w=>∃y,(y.n=(B0 x.n).1/\v= .tuple ⟨[y.v,.bool (B0 x.n).2]⟩)/\Hp w0 w [dv y]):=by
 refine eu Tryz.Yb ?_;intro C hp;skip;refine bP hp ?_;intro w b1 hx hp;refine az ?_;skip;refine bP hp ?_;intro w b2 hx hp;refine az ?_;refine aI hp ?_
 by_cases hf:ch x.n
 ·obtain⟨l,he⟩:∃l,gQ x.n=some l:=by
   have h:=hf.ev
   cases he:gQ x.n with
   |none=>rw[he] at h;exact Bool.noConfusion h
   |some l=>exact⟨l,rfl⟩
  have hm:=(dI hf).2
  have l1:x.sg.length<=30:=hm.l1
  have l2:x.aP.length<=30:=by have:=hm.l2;rw[x.cC] at this;exact this
  have l3:x.ms.length<=2:=hm.l3
  have p0:=DZ hm 0
  have E9:fB x.n=true:=cR.2 hf
  refine bQ hp Tryz.func36 (ug x _ hp.mod hS hW) ?_;intro w hx hp
  rw[E9]
  refine aM ?_;refine aI hp ?_
  refine cy Tryz.func18 (iZ x 0 _ hp.mod l1) ?_;rintro _ w ⟨bw,cw,rfl,hq⟩;have hx:=hq.x;have hp:=hp.bJ hq;refine az ?_
  refine bQ hp Tryz.func37 (rK bw cw _ (ee x.n 0) rfl _ hp.rd p0.1 p0.2) ?_;intro w hx hp
  refine bP hp ?_;intro w b4 hx hp;refine az ?_;(repeat(first|(refine ah ?_;refine aI hp ?_)|(refine aH ?_;refine aW hp ?_;intro w hp;refine az ?_)))
  refine mG hp (jl (α:=Int)) (default:cL Int) rfl rfl rfl rfl (s:=1) rfl (by decide) rfl (by unfold maxLen;omega) (by show 24*_<=_;omega) ?_;intro w bs hx hp;refine az ?_
  refine bP hp ?_;intro w b5 hx hp;refine az ?_;refine iE hp ?_;intro w hp;refine az ?_
  refine bP hp ?_;intro w b6 hx hp;refine az ?_;(repeat(first|(refine ah ?_;refine aI hp ?_)|(refine aH ?_;refine iE hp ?_;intro w hp;refine az ?_)))
  have hp:=sV (e:=3) (s:=1) (enc:=eI) x.sg.length hp
  have eW:∀s:Nat,s<x.sg.length->(x.sg.getD s default).width=((wN x.n (s:Nat):Nat):Int)/\wN x.n (s:Nat)<=4:=fun s hs=>by
   have h1:=oL hm (s:=(s:Nat)) (by unfold dr;exact⟨by omega,by show(s:Int)<x.sg.length;omega⟩)
   have h2:=(nY hm hf (s:=(s:Nat)) (by unfold dr;exact⟨by omega,by show(s:Int)<x.sg.length;omega⟩)).2
   rw[pt] at h1
   exact⟨h1.symm,h2⟩
  refine aR [1,2,4,5,7,50,51,52] (fun(i:Nat)=>[(1,.pointer (some ⟨b1,0,none⟩)),(2,.pointer (some ⟨b2,0,none⟩)),(4,.pointer (some ⟨b4,0,none⟩)),(5,.pointer (some ⟨b5,0,none⟩)),(7,.func (.func 38) ⟨[]⟩ ⟨[.pointer (some ⟨b1,0,none⟩),.pointer (some ⟨b5,0,none⟩),.pointer (some ⟨b6,0,none⟩)]⟩),(50,.slice x.sa x.sg.length x.sc),(51,.int .i64 x.sg.length),(52,.int .i64 (i:Int))])
   (fun i w'=>i<=x.sg.length/\∃R p,(R.length=x.sg.length/\(aJ R,p)=uB x.n i)/\Hp w0 w' [rO 31 1 jl (some ⟨bs,0,none⟩) x.sg.length R,cD 3 1 eI R,rB b6 3 [.int .i64 ((p:Nat):Int)],rB b5 50 [.slice (some ⟨bs,0,none⟩) x.sg.length x.sg.length],rB b1 41 x.cs,rB b4 33 [.int .i64 (cT (ee x.n 0)),.slice none 0 0,.slice none 0 0,.slice none 0 0],rB b2 33 (aL Tryz.dY.zero)]) (fun i=>x.sg.length-i) 0 rfl ⟨by omega,List.replicate x.sg.length default,1,⟨by simp,by
    show(aJ _,1)=(List.replicate x.sg.length [],1)
    unfold aJ
    rw[List.map_replicate];rfl⟩,(hp.f6.f5.f7.f5.f5.f5.f6).tk 7⟩ ?_
  clear hp
  rintro i w1 ⟨hi,R,p,⟨fF,fP⟩,hp⟩ IH C
  refine bL ?_
  apply ae<;>intro bD
  ·have aF:i<x.sg.length:=by omega
   obtain⟨e1,e2⟩:=eW i aF
   have hb:=OY hm hi
   rw[<-fP] at hb
   have lN:=hb.row i aF
   rw[bk] at lN
   refine aN ?_;refine bb hp ?_
   refine bP hp ?_;intro w b9 hx hp;refine az ?_;(repeat(first|(refine ah ?_;refine aI hp ?_)|(refine aH ?_;refine aW hp ?_;intro w hp;refine az ?_)))
   apply ae<;>intro hk
   ·have eN:uB x.n (i+1)=iX (uB x.n i) i (wN x.n (i:Nat)):=by rw[uB,if_pos (by rw[bG];exact hk)]
    refine aN ?_
    refine cy Tryz.func38 (zk x w0 hM b1 b5 b6 bs p i _ rfl aF (wN x.n (i:Nat)) e1 e2 l1 R fF lN hb.pos _ _ (hp.f5.f5.f5.f5.f5)) ?_;rintro _ w ⟨R',rfl,⟨Ej,Cu⟩,hp⟩;refine az ?_
    exact IH (i+1) _ _ _ (by omega) rfl ⟨by omega,R',p+wN x.n (i:Nat),⟨by rw[Ej,fF],by rw[eN,<-fP];exact Prod.ext Cu rfl⟩,(hp.f4.f4.f4.f4.f4.f5).drop⟩
   ·have eN:uB x.n (i+1)=uB x.n i:=by rw[uB,if_neg (by rw[bG];exact hk)]
    refine aM ?_
    exact IH (i+1) _ _ _ (by omega) rfl ⟨by omega,R,p,⟨fF,by rw[eN];exact fP⟩,hp.drop⟩
  ·refine aM ?_;refine aI hp ?_
   obtain rfl:i=x.sg.length:=by omega
   clear IH
   have fP:(aJ R,p)=vd x.n 0:=fP
   refine aR [1,2,4,5,7,65,66,67] (fun(i:Nat)=>[(1,.pointer (some ⟨b1,0,none⟩)),(2,.pointer (some ⟨b2,0,none⟩)),(4,.pointer (some ⟨b4,0,none⟩)),(5,.pointer (some ⟨b5,0,none⟩)),(7,.func (.func 38) ⟨[]⟩ ⟨[.pointer (some ⟨b1,0,none⟩),.pointer (some ⟨b5,0,none⟩),.pointer (some ⟨b6,0,none⟩)]⟩),(65,.slice x.sa x.sg.length x.sc),(66,.int .i64 x.sg.length),(67,.int .i64 (i:Int))])
    (fun i w'=>i<=x.sg.length/\∃R p sa sc,(R.length=x.sg.length/\(aJ R,p)=vd x.n i)/\Hp w0 w' [rO 31 1 jl (some ⟨bs,0,none⟩) x.sg.length R,cD 3 1 eI R,rB b6 3 [.int .i64 ((p:Nat):Int)],rB b5 50 [.slice (some ⟨bs,0,none⟩) x.sg.length x.sg.length],rB b1 41 x.cs,rO 68 3 ke sa sc (qA (pw [] x.n i)),rB b4 33 [.int .i64 (cT (ee x.n 0)),.slice sa (qA (pw [] x.n i)).length sc,.slice none 0 0,.slice none 0 0],rB b2 33 (aL Tryz.dY.zero)]) (fun i=>x.sg.length-i) 0 rfl ⟨by omega,R,p,none,0,⟨fF,fP⟩,?_⟩ ?_
   ·have hp:=(hp.eH (e:=68) (sz:=3) (enc:=ke) (c:=0) (X:=[]) (Ext.refl _) (dk.nil _ _ _ _ _)).f5.f5.f5.f5.f5
    exact hp
   clear hp
   clear fF fP
   rintro i w1 ⟨hi,R,p,sa,sc,⟨fF,fP⟩,hp⟩ IH C
   have uF:(qA (pw [] x.n i)).length=dU x.n 3 i:=by rw[Cs,l7]
   have hQb:=iM hm 3 i hi
   refine bL ?_
   apply ae<;>intro bD
   ·have aF:i<x.sg.length:=by omega
    obtain⟨e1,e2⟩:=eW i aF
    have hb:=OZ hm hi
    rw[<-fP] at hb
    have lN:=hb.row i aF
    rw[bk] at lN
    refine aN ?_;refine bb hp ?_
    refine bP hp ?_;intro w wX hx hp;refine az ?_;(repeat(first|(refine ah ?_;refine aI hp ?_)|(refine aH ?_;refine aW hp ?_;intro w hp;refine az ?_)))
    apply ae<;>intro hk
    ·have zb:aY x.n (i:Nat)=3:=by rw[bG];exact hk
     have eN:vd x.n (i+1)=iX (vd x.n i) i (wN x.n (i:Nat)):=by rw[vd,if_pos zb]
     have eQ:pw [] x.n (i+1)=pw [] x.n i++gR [] (iy x.n (i:Nat)) (wN x.n (i:Nat)):=by rw[pw,if_pos zb]
     have hv:iy x.n (i:Nat)=(x.sg.getD i default).init:=by unfold iy;rw[Int.toNat_natCast];rfl
     have Wc:=(hm.sg i aF).2.2
     refine aN ?_
     refine cy Tryz.func38 (zk x w0 hM b1 b5 b6 bs p i _ rfl aF (wN x.n (i:Nat)) e1 e2 l1 R fF lN hb.pos _ _ (hp.f5.f5.f5.f5.f5)) ?_;rintro _ w ⟨R',rfl,⟨Ej,Cu⟩,hp⟩;refine az ?_
     obtain⟨p',nL⟩:∃p',p'=p+wN x.n (i:Nat):=⟨_,rfl⟩
     rw[<-nL] at hp
     refine aR [1,2,4,5,7,11,12,65,66,67] (fun(k:Nat)=>[(1,.pointer (some ⟨b1,0,none⟩)),(2,.pointer (some ⟨b2,0,none⟩)),(4,.pointer (some ⟨b4,0,none⟩)),(5,.pointer (some ⟨b5,0,none⟩)),(7,.func (.func 38) ⟨[]⟩ ⟨[.pointer (some ⟨b1,0,none⟩),.pointer (some ⟨b5,0,none⟩),.pointer (some ⟨b6,0,none⟩)]⟩),(11,.pointer (some ⟨wX,0,none⟩)),(12,.int .i64 (k:Int)),(65,.slice x.sa x.sg.length x.sc),(66,.int .i64 x.sg.length),(67,.int .i64 (i:Int))])
      (fun k w'=>k<=wN x.n (i:Nat)/\∃sa sc,Hp w0 w' [rB wX 66 (n7 (x.sg.getD i default)),rO 31 1 jl (some ⟨bs,0,none⟩) x.sg.length R',cD 3 1 eI R',rB b6 3 [.int .i64 ((p':Nat):Int)],rB b5 50 [.slice (some ⟨bs,0,none⟩) x.sg.length x.sg.length],rB b1 41 x.cs,rO 68 3 ke sa sc (qA (pw [] x.n i++gR [] (iy x.n (i:Nat)) k)),rB b4 33 [.int .i64 (cT (ee x.n 0)),.slice sa (qA (pw [] x.n i++gR [] (iy x.n (i:Nat)) k)).length sc,.slice none 0 0,.slice none 0 0],rB b2 33 (aL Tryz.dY.zero)]) (fun k=>wN x.n (i:Nat)-k) 0 rfl ⟨by omega,sa,sc,?_⟩ ?_
     ·have e0:pw [] x.n i++gR [] (iy x.n (i:Nat)) 0=pw [] x.n i:=by simp[gR]
      rw[e0]
      exact hp.f4.f4.f4.f4.f4.f5
     clear hp
     rintro k w1 ⟨Ip,sa,sc,hp⟩ kE C
     have hQl2:(qA (pw [] x.n i++gR [] (iy x.n (i:Nat)) k)).length=dU x.n 3 i+k:=by rw[Cs,List.length_append,l7,sX]
     refine bL ?_;refine aI hp ?_
     apply ae<;>intro jK
     ·have fK:k<wN x.n (i:Nat):=by omega
      have Xp:((k:Nat):Int)<=((IntKind.i64.bits:Nat):Int):=by show((k:Nat):Int)<=64;omega
      refine aN ?_;(repeat(refine aI hp ?_))
      refine r7 hp ke [⟨0,bits .and .i64 ((x.sg.getD i default).init/2^((k:Nat):Int).toNat) 1,[],none,0⟩] rfl rfl rfl rfl (s:=3) rfl (by decide) (by infer_instance) (by rfl) (by rfl) (by rfl) (by decide) ?_;intro w bl hx hp;refine az ?_
      refine gT hp ?_;intro SH SI w hp bZ;refine az ?_;refine iE hp ?_;intro w hp;refine az ?_
      have eA:qA (pw [] x.n i++gR [] (iy x.n (i:Nat)) k)++[⟨0,bits .and .i64 ((x.sg.getD i default).init/2^((k:Nat):Int).toNat) 1,[],none,0⟩]=qA (pw [] x.n i++gR [] (iy x.n (i:Nat)) (k+1)):=by
       rw[vT,<-List.append_assoc,Ct _ [_],hv,dx,Int.toNat_natCast];rfl
      rw[eA] at hp
      exact kE (k+1) _ _ _ (by omega) rfl ⟨by omega,SH,SI,hp.drop⟩
     ·refine aM ?_
      obtain rfl:k=wN x.n (i:Nat):=by omega
      rw[<-eQ] at hp
      exact IH (i+1) _ _ _ (by omega) rfl ⟨by omega,R',p',sa,sc,⟨by rw[Ej,fF],by rw[eN,<-fP,nL];exact Prod.ext Cu rfl⟩,hp.drop⟩
    ·have zb:aY x.n (i:Nat)≠3:=by rw[bG];exact hk
     have eN:vd x.n (i+1)=vd x.n i:=by rw[vd,if_neg zb]
     have eQ:pw [] x.n (i+1)=pw [] x.n i:=by rw[pw,if_neg zb]
     refine aM ?_
     exact IH (i+1) _ _ _ (by omega) rfl ⟨by omega,R,p,sa,sc,⟨fF,by rw[eN];exact fP⟩,by rw[eQ];exact hp.drop⟩
   ·refine aM ?_;refine aI hp ?_
    obtain rfl:i=x.sg.length:=by omega
    clear IH
    have fP:(aJ R,p)=pS x.n 0:=fP
    refine aR [1,2,4,5,7,98,99,100] (fun(j:Nat)=>[(1,.pointer (some ⟨b1,0,none⟩)),(2,.pointer (some ⟨b2,0,none⟩)),(4,.pointer (some ⟨b4,0,none⟩)),(5,.pointer (some ⟨b5,0,none⟩)),(7,.func (.func 38) ⟨[]⟩ ⟨[.pointer (some ⟨b1,0,none⟩),.pointer (some ⟨b5,0,none⟩),.pointer (some ⟨b6,0,none⟩)]⟩),(98,.slice x.ma x.ms.length x.mc),(99,.int .i64 x.ms.length),(100,.int .i64 (j:Int))])
     (fun j w'=>j<=x.ms.length/\∃R p sa sc,(R.length=x.sg.length/\(aJ R,p)=pS x.n j)/\Hp w0 w' [rO 31 1 jl (some ⟨bs,0,none⟩) x.sg.length R,cD 3 1 eI R,rB b6 3 [.int .i64 ((p:Nat):Int)],rB b5 50 [.slice (some ⟨bs,0,none⟩) x.sg.length x.sg.length],rB b1 41 x.cs,rO 68 3 ke sa sc (qA (ni [] [] x.n j)),rB b4 33 [.int .i64 (cT (ee x.n 0)),.slice sa (qA (ni [] [] x.n j)).length sc,.slice none 0 0,.slice none 0 0],rB b2 33 (aL Tryz.dY.zero)]) (fun j=>x.ms.length-j) 0 rfl ⟨by omega,R,p,sa,sc,⟨fF,fP⟩,hp⟩ ?_
    clear hp fF fP
    rintro j w1 ⟨hj,R,p,sa,sc,⟨fF,fP⟩,hp⟩ IH C
    have uF:(qA (ni [] [] x.n j)).length=dU x.n 3 x.sg.length+jc x.n j:=by rw[Cs,jA];rfl
    have hQb:=iM hm 3 x.sg.length (Nat.le_refl _)
    have hQb2:=tf hm j hj
    refine bL ?_
    apply ae<;>intro bD
    ·have aF:j<x.ms.length:=by omega
     have i4:=(hm.ms j aF).2.2.2.1
     change dr x.n (x.ms.getD j default).out at i4
     unfold dr at i4
     change 0<=(x.ms.getD j default).out/\(x.ms.getD j default).out<x.sg.length at i4
     obtain⟨o,ho⟩:=Int.eq_ofNat_of_zero_le i4.1
     have jL:o<x.sg.length:=by omega
     obtain⟨e1,e2⟩:=eW o jL
     have hb:=O0 hm hj
     rw[<-fP] at hb
     have lN:=hb.row o jL
     rw[bk] at lN
     have eo:(x.ms.getD j default).out.toNat=o:=by omega
     have eN:pS x.n (j+1)=iX (pS x.n j) o (wN x.n (o:Nat)):=by
      rw[pS]
      show iX (pS x.n j) (x.ms.getD j default).out.toNat (wN x.n (x.ms.getD j default).out)=_
      rw[eo,ho]
     have eQ:ni [] [] x.n (j+1)=ni [] [] x.n j++ju [] (wN x.n (o:Nat)):=by
      rw[ni]
      show ni [] [] x.n j++ju [] (wN x.n (x.ms.getD j default).out)=_
      rw[ho]
     refine aN ?_;refine bb hp ?_
     refine bP hp ?_;intro w Cd hx hp;refine az ?_;(repeat(first|(refine ah ?_;refine aI hp ?_)|(refine aH ?_;refine aW hp ?_;intro w hp;refine az ?_)))
     refine cy Tryz.func38 (zk x w0 hM b1 b5 b6 bs p o (x.ms.getD j default).out ho jL (wN x.n (o:Nat)) e1 e2 l1 R fF lN hb.pos _ _ (hp.f5.f5.f5.f5.f5)) ?_;rintro _ w ⟨R',rfl,⟨Ej,Cu⟩,hp⟩;refine az ?_
     obtain⟨p',nL⟩:∃p',p'=p+wN x.n (o:Nat):=⟨_,rfl⟩
     rw[<-nL] at hp
     refine aR [1,2,4,5,7,14,15,98,99,100] (fun(k:Nat)=>[(1,.pointer (some ⟨b1,0,none⟩)),(2,.pointer (some ⟨b2,0,none⟩)),(4,.pointer (some ⟨b4,0,none⟩)),(5,.pointer (some ⟨b5,0,none⟩)),(7,.func (.func 38) ⟨[]⟩ ⟨[.pointer (some ⟨b1,0,none⟩),.pointer (some ⟨b5,0,none⟩),.pointer (some ⟨b6,0,none⟩)]⟩),(14,.pointer (some ⟨Cd,0,none⟩)),(15,.int .i64 (k:Int)),(98,.slice x.ma x.ms.length x.mc),(99,.int .i64 x.ms.length),(100,.int .i64 (j:Int))])
      (fun k w'=>k<=wN x.n (o:Nat)/\∃sa sc,Hp w0 w' [rB Cd 70 (p9 (x.ms.getD j default)),rO 31 1 jl (some ⟨bs,0,none⟩) x.sg.length R',cD 3 1 eI R',rB b6 3 [.int .i64 ((p':Nat):Int)],rB b5 50 [.slice (some ⟨bs,0,none⟩) x.sg.length x.sg.length],rB b1 41 x.cs,rO 68 3 ke sa sc (qA (ni [] [] x.n j++ju [] k)),rB b4 33 [.int .i64 (cT (ee x.n 0)),.slice sa (qA (ni [] [] x.n j++ju [] k)).length sc,.slice none 0 0,.slice none 0 0],rB b2 33 (aL Tryz.dY.zero)]) (fun k=>wN x.n (o:Nat)-k) 0 rfl ⟨by omega,sa,sc,?_⟩ ?_
     ·have e0:ni [] [] x.n j++ju [] 0=ni [] [] x.n j:=by simp[ju]
      rw[e0]
      exact hp.f4.f4.f4.f4.f4.f5
     clear hp
     rintro k w1 ⟨Ip,sa,sc,hp⟩ kE C
     have hQl2:(qA (ni [] [] x.n j++ju [] k)).length=dU x.n 3 x.sg.length+jc x.n j+k:=by rw[Ct,List.length_append,uF,Cs];simp[ju]
     refine bL ?_;(repeat(refine ah ?_;first|refine aI hp ?_|refine rS hp ?_))
     rw[eo]
     apply ae<;>intro jK
     ·have fK:k<wN x.n (o:Nat):=by omega
      refine aN ?_;refine aI hp ?_
      refine r7 hp ke [⟨1,0,[],none,0⟩] rfl rfl rfl rfl (s:=3) rfl (by decide) (by infer_instance) (by rfl) (by rfl) (by rfl) (by decide) ?_;intro w bl hx hp;refine az ?_
      refine gT hp ?_;intro SH SI w hp bZ;refine az ?_;refine iE hp ?_;intro w hp;refine az ?_
      have eA:qA (ni [] [] x.n j++ju [] k)++[⟨1,0,[],none,0⟩]=qA (ni [] [] x.n j++ju [] (k+1)):=by
       unfold ju
       rw[List.replicate_succ',<-List.append_assoc,Ct _ [_]];rfl
      rw[eA] at hp
      exact kE (k+1) _ _ _ (by omega) rfl ⟨by omega,SH,SI,hp.drop⟩
     ·refine aM ?_
      obtain rfl:k=wN x.n (o:Nat):=by omega
      rw[<-eQ] at hp
      exact IH (j+1) _ _ _ (by omega) rfl ⟨by omega,R',p',sa,sc,⟨by rw[Ej,fF],by rw[eN,<-fP,nL];exact Prod.ext Cu rfl⟩,hp.drop⟩
    ·refine aM ?_;refine aI hp ?_
     obtain rfl:j=x.ms.length:=by omega
     clear IH
     refine bP hp ?_;intro w bx hx hp;refine az ?_;refine aI hp ?_
     refine cy Tryz.func39 (pT x _ hp.mod hS hW) ?_;rintro _ w ⟨be,ce,rfl,hq⟩;have hx:=hq.x;have hp:=hp.bJ hq;refine az ?_
     rw[mV he] at hp⊢
     have qb:=iW he
     have jg:=qb.2.1
     have OT:l.length<=30:=by have h:=qb.2.2;rw[x.cC] at h;omega
     have Fw:=kQ l
     obtain⟨Fv,yP⟩:=py hf he
     have jr:=oM.start Fv
     obtain⟨m,wm⟩:∃m,m=dU x.n 3 x.sg.length+jc x.n x.ms.length:=⟨_,rfl⟩
     have EC:(kq x.n).au.length=m:=by rw[wm];exact jA _ _ _ _
     have hm12:m<=200:=by omega
     have hQm:(qA (ni [] [] x.n x.ms.length)).length=m:=by rw[wm];exact uF
     have oX:aU (qA (ni [] [] x.n x.ms.length))=(kq x.n).au.map nG:=by rw[Nv,yp];exact(yp _ _ _ _).symm
     obtain⟨Qm,hQme⟩:∃Qm,Qm=qA (ni [] [] x.n x.ms.length):=⟨_,rfl⟩
     have hp:=(Iw (ni [] [] x.n x.ms.length) hp)
     rw[<-hQme] at hp hQm oX
     rw[hQm] at hp
     have WO:aJ R=(fu x.n l 0).2:=congrArg Prod.fst fP
     have eB:∀(N:ao) (aa:Option Addr) (ac:Nat) (A:List (Int×Int)),N.aT=cT (ee x.n 0)->N.au.length=m->N.outs=[]->([.int .i64 (cT (ee x.n 0)),.slice sa m sc,.slice aa A.length ac,.slice none 0 0]:List Value)=((gN N sa sc).wA aa ac A).cs:=fun N aa ac A h1 h2 h3=>by
      show _=([.int .i64 N.aT,.slice sa (gA N.au).length sc,.slice aa A.length ac,.slice none N.outs.length 0]:List Value)
      rw[h1,Sy,h2,h3];rfl
     refine aR [1,2,4,5,16,134,135,136] (fun(i:Nat)=>[(1,.pointer (some ⟨b1,0,none⟩)),(2,.pointer (some ⟨b2,0,none⟩)),(4,.pointer (some ⟨b4,0,none⟩)),(5,.pointer (some ⟨b5,0,none⟩)),(16,.pointer (some ⟨bx,0,none⟩)),(134,.slice be l.length ce),(135,.int .i64 l.length),(136,.int .i64 (i:Int))])
      (fun i w'=>i<=l.length/\∃R aa ac wv,(R.length=x.sg.length/\aJ R=(fu x.n l i).2)/\Hp w0 w' [rB bx 88 [.pointer (some ⟨b4,0,none⟩),.slice (some ⟨bs,0,none⟩) x.sg.length x.sg.length,.int .i64 (wv),.bool (fu x.n l i).1.2],rB b4 33 [.int .i64 (cT (ee x.n 0)),.slice sa m sc,.slice aa (fu x.n l i).1.1.af.length ac,.slice none 0 0],rO 120 2 gh aa ac (fu x.n l i).1.1.af,rO 31 1 jl (some ⟨bs,0,none⟩) x.sg.length R,cD 3 1 eI R,rO 68 3 ke sa sc Qm,fz Qm,rO 3 1 eI be ce (cJ l),rB b5 50 [.slice (some ⟨bs,0,none⟩) x.sg.length x.sg.length],rB b1 41 x.cs,rB b2 33 (aL Tryz.dY.zero)]) (fun i=>l.length-i) 0 rfl ⟨by omega,R,none,0,0,⟨fF,WO⟩,?_⟩ ?_
     ·have hp:=hp.eH (e:=120) (sz:=2) (enc:=gh) (c:=0) (X:=[]) (Ext.refl _) (dk.nil _ _ _ _ _)
      exact(hp.f11.f9.f9.f5.f5.f10.f9.f9.f8.f11.f10).tk 11
     clear hp fF fP WO
     rintro i w1 ⟨hi,R,aa,ac,wv,⟨fF,fP⟩,hp⟩ IH C
     have hP:=px hm hf (fun i hi=>(jg i hi).1) i hi
     refine bL ?_
     apply ae<;>intro bD
     ·have aF:i<l.length:=by omega
      obtain⟨q,hq⟩:∃q,q=l.getD i 0:=⟨_,rfl⟩
      have Tg:(cJ l).getD i default=((q:Nat):Int):=by rw[hq];exact mu l i
      have KJ:q<x.aP.length:=by
       have h:=(jg q (by rw[hq,List.getD_eq_getElem?_getD,List.getElem?_eq_getElem aF];exact List.getElem_mem _)).1
       rw[x.cC] at h;exact h
      obtain⟨qR,yB,rY,KK⟩:=gg hm hf (i:=q) (by rw[x.cC];exact KJ)
      have wE:dT x.n q=(x.aP.getD q default).tg:=x.Le q
      have AN:opsL x.n q=(x.aP.getD q default).ops:=x.mR q
      have pH:=rY
      rw[wE] at pH
      unfold dr at pH
      change 0<=(x.aP.getD q default).tg/\(x.aP.getD q default).tg<x.sg.length at pH
      obtain⟨t,ht⟩:=Int.eq_ofNat_of_zero_le pH.1
      have Ea:(x.aP.getD q default).tg.toNat=t:=by omega
      obtain⟨e1,e2⟩:=eW t (by omega)
      have DW:=nY hm hf rY
      have IN:wN x.n (dT x.n q)=wN x.n (t:Nat):=by rw[wE,ht]
      have la:Lf q x.aP:=⟨KJ⟩
      refine aN ?_;(repeat(refine ah ?_;first|refine aI hp ?_|refine bb hp ?_|refine ik hp ?_))
      rw[Tg,Int.toNat_natCast]
      skip
      refine bP hp ?_;intro w b21 hx hp;refine az ?_;(repeat(first|(refine ah ?_;first|refine aI hp ?_|refine rS hp ?_)|(refine aH ?_;(first|refine iE hp ?_|refine aW hp ?_);intro w hp;refine az ?_)))
      rw[Ea,e1] at hp
      have hpL:Hp w0 _ [_,_]:=(hp.f9.f1).tk 2
      refine Jk (hpL) (by kernel_rfl) (by kernel_rfl) rfl rfl ?_;intro w hx hs;have hp:=hp.ext hx;(repeat(refine dN ?_))
      refine gq ?_
      have nR:=kL qR yB
      have K1:=KS w0 R x.sg.length fF (some ⟨bs,0,none⟩) x.sg.length bx b4 (wN x.n (t:Nat)) (by rw[<-IN];exact DW) (gN (kq x.n) sa sc) (x.aP.getD q default).ops (x.aP.getD q default).oa (x.aP.getD q default).oc (by rw[<-AN];exact qR.len) (by omega) (fun u hu=>by
       have h:=(hP.sig.row _ (by rw[<-fP];exact aK (X:=aJ R) (i:=u) (by rw[fh];exact hu))).1
       rw[bk] at h;omega) (cU x.n q) (by rw[<-AN];exact nR.1) nR.2 (fu x.n l i).1 (by rw[WC];exact hP.eq) hP.dR (fun r hr=>by rw[fP] at hr;exact(hP.sig.row r hr).2) aa ac _ _ ((hp.f3.f3.f3).f1.Ls (eB (kq x.n) aa ac _ rfl EC rfl)).f1
      rw[fP,<-IN] at K1
      refine oW Tryz.func40 (K1) ?_;rintro _ w ⟨b,c,kv,kx,qq,rfl,hp⟩;have hs:=(hp.f10.f5.tk 2);refine⟨fun _=>hs,?_⟩;refine fO ?_
      obtain⟨ev,oU⟩:∃ev,ev=dD a6 (fu x.n l i).2 (wN x.n (dT x.n q)) (cU x.n q) (fu x.n l i).1:=⟨_,rfl⟩
      rw[<-oU] at hp⊢
      first|refine Bq hp (y:=(⟨ev.2,b,c⟩:cL Int)) rfl rfl rfl (by omega) (by decide) (rfl) rfl (by kernel_rfl) ?_|refine Ai hp (y:=(⟨ev.2,b,c⟩:cL Int)) rfl rfl rfl (by omega) (by decide) (rfl) rfl (by kernel_rfl) ?_
      intro w hp;refine fO ?_
      rw[Ea] at hp
      obtain⟨Qr,D1,gF⟩:=oJ (hp.f6) (i:=t) (by omega)
      have hp:=gF _ _ (⟨ev.2,b,c⟩:cL Int) (D1.drop.f1)
      have eT:fu x.n l (i+1)=(ev.1,(fu x.n l i).2.set t ev.2):=by
       rw[fu,<-hq]
       unfold IL
       rw[<-oU,wE,Ea]
      have rq:ev.1.1.aT=cT (ee x.n 0)/\ev.1.1.au.length=m/\ev.1.1.outs=[]:=by
       have h:=(hP.step hm hf (i:=q) (by rw[x.cC];exact KJ)).eq
       have h2:IL x.n (fu x.n l i) q=fu x.n l (i+1):=by rw[fu,<-hq]
       rw[h2,eT] at h
       have h:ev.1.1={kq x.n with af:=ev.1.1.af}:=h
       rw[h]
       exact⟨rfl,EC,rfl⟩
      have hp:=(((hp.f4).drop).f4.f4.f4.f4).f1.Ls (eB (kq x.n) kv kx ev.1.1.af rfl EC rfl).symm
      refine IH (i+1) _ _ _ (by omega) rfl ⟨by omega,R.set t ⟨ev.2,b,c⟩,kv,kx,((wN x.n (dT x.n q):Nat):Int),⟨by rw[List.length_set];exact fF,by rw[eT,mv,fP]⟩,?_⟩
      rw[eT]
      exact hp.f1
     ·refine aM ?_;refine aI hp ?_
      obtain rfl:i=l.length:=by omega
      clear IH hP
      have fP:aJ R=(bO x.n l).2:=fP
      have pU:∀u,u<R.length->(R.getD u default).ins.length<=1000:=fun u hu=>by
       have h:=(jr.sig.row _ (by rw[<-fP];exact aK (X:=aJ R) (i:=u) (by rw[fh];exact hu))).1
       rw[bk] at h;omega
      have XA:aU Qm=zw (bO x.n l).1.1.au 0:=by
       rw[J8,oX,Fv.eq]
      refine aR [1,2,4,5,16,22,168,169,170] (fun(s:Nat)=>[(1,.pointer (some ⟨b1,0,none⟩)),(2,.pointer (some ⟨b2,0,none⟩)),(4,.pointer (some ⟨b4,0,none⟩)),(5,.pointer (some ⟨b5,0,none⟩)),(16,.pointer (some ⟨bx,0,none⟩)),(22,.int .i64 (((fX x.n (bO x.n l).2 (bO x.n l).1 s).2:Nat):Int)),(168,.slice x.sa x.sg.length x.sc),(169,.int .i64 x.sg.length),(170,.int .i64 (s:Int))])
       (fun s w'=>s<=x.sg.length/\∃Q aa ac wv,(Q.length=m/\aU Q=zw (fX x.n (bO x.n l).2 (bO x.n l).1 s).1.1.au (fX x.n (bO x.n l).2 (bO x.n l).1 s).2)/\Hp w0 w' [rB bx 88 [.pointer (some ⟨b4,0,none⟩),.slice (some ⟨bs,0,none⟩) x.sg.length x.sg.length,.int .i64 (wv),.bool (fX x.n (bO x.n l).2 (bO x.n l).1 s).1.2],rB b4 33 [.int .i64 (cT (ee x.n 0)),.slice sa m sc,.slice aa (fX x.n (bO x.n l).2 (bO x.n l).1 s).1.1.af.length ac,.slice none 0 0],rO 120 2 gh aa ac (fX x.n (bO x.n l).2 (bO x.n l).1 s).1.1.af,rO 68 3 ke sa sc Q,fz Q,rO 31 1 jl (some ⟨bs,0,none⟩) x.sg.length R,cD 3 1 eI R,rB b5 50 [.slice (some ⟨bs,0,none⟩) x.sg.length x.sg.length],rB b1 41 x.cs,rB b2 33 (aL Tryz.dY.zero)]) (fun s=>x.sg.length-s) 0 rfl ⟨by omega,Qm,aa,ac,wv,⟨hQm,XA⟩,(hp.f10.f10.f10.f7.f7.f9.f9.f9.f9.f9).tk 10⟩ ?_
      clear hp
      rintro s w1 ⟨hs,Q,aa,ac,wv,⟨oV,lE⟩,hp⟩ IH C
      obtain⟨AI,zy,hS3⟩:=qO hm jr s hs
      have hS4:=iM hm 3 s hs
      refine bL ?_
      apply ae<;>intro bD
      ·have aF:s<x.sg.length:=by omega
       obtain⟨e1,e2⟩:=eW s aF
       refine aN ?_;refine bb hp ?_
       refine bP hp ?_;intro w Tj hx hp;refine az ?_;(repeat(first|(refine ah ?_;refine aI hp ?_)|(refine aH ?_;refine aW hp ?_;intro w hp;refine az ?_)))
       apply ae<;>intro hk
       ·have eT:(fX x.n (bO x.n l).2 (bO x.n l).1 (s+1))=(fX x.n (bO x.n l).2 (bO x.n l).1 s):=by rw[fX,if_neg (by rw[bG];exact hk)]
        refine aN ?_
        exact IH (s+1) _ _ _ (by omega) (by rw[eT];rfl) ⟨by omega,Q,aa,ac,wv,⟨oV,by rw[eT];exact lE⟩,by rw[eT];exact hp.drop⟩
       ·have zb:aY x.n (s:Nat)=3:=by rw[bG];exact Decidable.not_not.1 hk
        have eT:(fX x.n (bO x.n l).2 (bO x.n l).1 (s+1))=(jm x.n (bO x.n l).2 ((s:Nat):Int) (fX x.n (bO x.n l).2 (bO x.n l).1 s) x.aP.length):=by rw[fX,if_pos zb,x.cC]
        refine aM ?_;refine aI hp ?_
        refine aR [1,2,4,5,16,22,23,24,168,169,170,179,180,181] (fun(i:Nat)=>[(1,.pointer (some ⟨b1,0,none⟩)),(2,.pointer (some ⟨b2,0,none⟩)),(4,.pointer (some ⟨b4,0,none⟩)),(5,.pointer (some ⟨b5,0,none⟩)),(16,.pointer (some ⟨bx,0,none⟩)),(22,.int .i64 (((jm x.n (bO x.n l).2 ((s:Nat):Int) (fX x.n (bO x.n l).2 (bO x.n l).1 s) i).2:Nat):Int)),(23,.int .i64 (s:Int)),(24,.pointer (some ⟨Tj,0,none⟩)),(168,.slice x.sa x.sg.length x.sc),(169,.int .i64 x.sg.length),(170,.int .i64 (s:Int)),(179,.slice x.aa x.aP.length x.ac),(180,.int .i64 x.aP.length),(181,.int .i64 (i:Int))])
         (fun i w'=>i<=x.aP.length/\∃Q aa ac wv,(Q.length=m/\aU Q=zw (jm x.n (bO x.n l).2 ((s:Nat):Int) (fX x.n (bO x.n l).2 (bO x.n l).1 s) i).1.1.au (jm x.n (bO x.n l).2 ((s:Nat):Int) (fX x.n (bO x.n l).2 (bO x.n l).1 s) i).2)/\Hp w0 w' [rB Tj 66 (n7 (x.sg.getD s default)),rB bx 88 [.pointer (some ⟨b4,0,none⟩),.slice (some ⟨bs,0,none⟩) x.sg.length x.sg.length,.int .i64 (wv),.bool (jm x.n (bO x.n l).2 ((s:Nat):Int) (fX x.n (bO x.n l).2 (bO x.n l).1 s) i).1.2],rB b4 33 [.int .i64 (cT (ee x.n 0)),.slice sa m sc,.slice aa (jm x.n (bO x.n l).2 ((s:Nat):Int) (fX x.n (bO x.n l).2 (bO x.n l).1 s) i).1.1.af.length ac,.slice none 0 0],rO 120 2 gh aa ac (jm x.n (bO x.n l).2 ((s:Nat):Int) (fX x.n (bO x.n l).2 (bO x.n l).1 s) i).1.1.af,rO 68 3 ke sa sc Q,fz Q,rO 31 1 jl (some ⟨bs,0,none⟩) x.sg.length R,cD 3 1 eI R,rB b5 50 [.slice (some ⟨bs,0,none⟩) x.sg.length x.sg.length],rB b1 41 x.cs,rB b2 33 (aL Tryz.dY.zero)]) (fun i=>x.aP.length-i) 0 rfl ⟨by omega,Q,aa,ac,wv,⟨oV,lE⟩,hp⟩ ?_
        clear hp oV lE
        rintro i w1 ⟨hi,Q,aa,ac,wv,⟨oV,lE⟩,hp⟩ kE C
        obtain⟨vU,Xh,hI3⟩:=nZ hm aF zb AI zy i (by rw[x.cC];exact hi)
        refine bL ?_
        apply ae<;>intro jK
        ·have fK:i<x.aP.length:=by omega
         obtain⟨qR,yB,rY,KK⟩:=gg hm hf (i:=i) (by rw[x.cC];exact fK)
         have AN:opsL x.n i=(x.aP.getD i default).ops:=x.mR i
         have la:Lf i x.aP:=⟨fK⟩
         refine aN ?_;refine bb hp ?_
         refine bP hp ?_;intro w Tk hx hp;refine az ?_;(repeat(first|(refine ah ?_;refine aI hp ?_)|(refine aH ?_;refine aW hp ?_;intro w hp;refine az ?_)))
         apply ae<;>intro ht
         ·have IV:dT x.n i=(s:Nat):=(x.Le i).trans ht
          have ij:=BX hm aF zb AI zy (i:=i) (by rw[x.cC];exact fK) IV
          have DW:=nY hm hf rY
          rw[IV] at DW
          have nR:=kL qR yB
          obtain⟨v1,v2,v3,v4⟩:=vU.ev (wN x.n (s:Nat)) (cU x.n i)
          obtain⟨ev,oU⟩:∃ev,ev=dD a6 (bO x.n l).2 (wN x.n (s:Nat)) (cU x.n i) (jm x.n (bO x.n l).2 ((s:Nat):Int) (fX x.n (bO x.n l).2 (bO x.n l).1 s) i).1:=⟨_,rfl⟩
          have Cw:ev.2.length=wN x.n (s:Nat):=by rw[oU];exact cv _ _ _ _ _
          rw[<-oU] at v1 v2 v3 v4
          have eJ:(jm x.n (bO x.n l).2 ((s:Nat):Int) (fX x.n (bO x.n l).2 (bO x.n l).1 s) (i+1))=((ji ev.1.1 (jm x.n (bO x.n l).2 ((s:Nat):Int) (fX x.n (bO x.n l).2 (bO x.n l).1 s) i).2 ev.2 (wN x.n (s:Nat)),ev.1.2),(jm x.n (bO x.n l).2 ((s:Nat):Int) (fX x.n (bO x.n l).2 (bO x.n l).1 s) i).2+wN x.n (s:Nat)):=by
           rw[jm]
           unfold zJ
           rw[if_pos IV,<-oU]
          obtain⟨q0,Ik⟩:∃q0,q0=(jm x.n (bO x.n l).2 ((s:Nat):Int) (fX x.n (bO x.n l).2 (bO x.n l).1 s) i).2:=⟨_,rfl⟩
          rw[<-Ik] at eJ ij v1 lE
          have hlN:ev.1.1.au.length=m:=by rw[v1.len,wm];rfl
          have hlI:(jm x.n (bO x.n l).2 ((s:Nat):Int) (fX x.n (bO x.n l).2 (bO x.n l).1 s) i).1.1.au.length=m:=by rw[vU.len,wm];rfl
          have Lw:q0+wN x.n (s:Nat)<=m:=by rw[wm];exact Nat.le_trans ij (Nat.le_add_right _ _)
          refine aN ?_;(repeat(first|(refine ah ?_;refine aI hp ?_)|(refine aH ?_;refine iE hp ?_;intro w hp;refine az ?_)))
          rw[e1] at hp
          have K1:=KS w0 R x.sg.length fF (some ⟨bs,0,none⟩) x.sg.length bx b4 (wN x.n (s:Nat)) DW (gN (jm x.n (bO x.n l).2 ((s:Nat):Int) (fX x.n (bO x.n l).2 (bO x.n l).1 s) i).1.1 sa sc) (x.aP.getD i default).ops (x.aP.getD i default).oa (x.aP.getD i default).oc (by rw[<-AN];exact qR.len) (by omega) pU (cU x.n i) (by rw[<-AN];exact nR.1) nR.2 (jm x.n (bO x.n l).2 ((s:Nat):Int) (fX x.n (bO x.n l).2 (bO x.n l).1 s) i).1 (by rw[WC]) vU.dR (fun r hr=>by rw[fP] at hr;exact(vU.sig.row r hr).2) aa ac _ _ ((hp.f1.f1.f4.f4.f4).f1.Ls (eB (jm x.n (bO x.n l).2 ((s:Nat):Int) (fX x.n (bO x.n l).2 (bO x.n l).1 s) i).1.1 aa ac _ vU.ck hlI vU.outs)).f1
          rw[fP,<-oU] at K1
          refine cy Tryz.func40 (K1) ?_;rintro _ w ⟨b,c,kv,kx,qq,rfl,hp⟩;refine az ?_
          have hp:=(((hp.f4).drop).f4.f4.f3.f3.f4).Ls (eB (jm x.n (bO x.n l).2 ((s:Nat):Int) (fX x.n (bO x.n l).2 (bO x.n l).1 s) i).1.1 kv kx ev.1.1.af vU.ck hlI vU.outs).symm
          refine aR [1,2,4,5,16,22,23,24,168,169,170,179,180,181,201,202,203] (fun(k:Nat)=>[(1,.pointer (some ⟨b1,0,none⟩)),(2,.pointer (some ⟨b2,0,none⟩)),(4,.pointer (some ⟨b4,0,none⟩)),(5,.pointer (some ⟨b5,0,none⟩)),(16,.pointer (some ⟨bx,0,none⟩)),(22,.int .i64 ((q0+k:Nat):Int)),(23,.int .i64 (s:Int)),(24,.pointer (some ⟨Tj,0,none⟩)),(168,.slice x.sa x.sg.length x.sc),(169,.int .i64 x.sg.length),(170,.int .i64 (s:Int)),(179,.slice x.aa x.aP.length x.ac),(180,.int .i64 x.aP.length),(181,.int .i64 (i:Int)),(201,.slice b ev.2.length c),(202,.int .i64 ev.2.length),(203,.int .i64 (k:Int))])
           (fun k w'=>k<=ev.2.length/\∃Q wv,(Q.length=m/\aU Q=zw (ji ev.1.1 q0 ev.2 k).au (q0+k))/\Hp w0 w' [rO 3 1 eI b c ev.2,rB Tj 66 (n7 (x.sg.getD s default)),rB bx 88 [.pointer (some ⟨b4,0,none⟩),.slice (some ⟨bs,0,none⟩) x.sg.length x.sg.length,.int .i64 (wv),.bool ev.1.2],rB b4 33 [.int .i64 (cT (ee x.n 0)),.slice sa m sc,.slice kv ev.1.1.af.length kx,.slice none 0 0],rO 120 2 gh kv kx ev.1.1.af,rO 68 3 ke sa sc Q,fz Q,rO 31 1 jl (some ⟨bs,0,none⟩) x.sg.length R,cD 3 1 eI R,rB b5 50 [.slice (some ⟨bs,0,none⟩) x.sg.length x.sg.length],rB b1 41 x.cs,rB b2 33 (aL Tryz.dY.zero)]) (fun k=>ev.2.length-k) 0 (by rw[Ik];rfl) ⟨by omega,Q,_,⟨oV,?_⟩,hp.f3.f1.f3.f4.f4⟩ ?_
          ·rw[lE]
           show zw (jm x.n (bO x.n l).2 ((s:Nat):Int) (fX x.n (bO x.n l).2 (bO x.n l).1 s) i).1.1.au q0=zw ev.1.1.au q0
           rw[v3]
          clear hp oV lE
          rintro k w1 ⟨Ip,Q,wv,⟨oV,lE⟩,hp⟩ WQ C
          refine bL ?_
          apply ae<;>intro Ks
          ·have O1:k<ev.2.length:=by omega
           obtain⟨u1,_⟩:=v1.bits (bits:=ev.2) (w:=wN x.n (s:Nat)) ij Cw v2 k (by omega)
           have u2:(ji ev.1.1 q0 ev.2 k).au.length=m:=by rw[u1.len,wm];rfl
           have hvk:=v2 _ (aK O1)
           have Lj:sa≠none:=bW hp (X:=Q) (by omega)
           refine aN ?_;(repeat(first|(refine ah ?_;first|refine aI hp ?_|refine bb hp ?_)|(refine bK ?_;refine gG hp ?_;intro w _ hx hp;refine az ?_)))
           rename_i bl
           first|refine Jn hp ({Q.getD (q0+k) default with ins:=[ev.2.getD k default],ia:=some ⟨bl,0,none⟩,ic:=1}) rfl rfl rfl (by omega) (by decide) rfl rfl ?_|refine NQ hp ({Q.getD (q0+k) default with ins:=[ev.2.getD k default],ia:=some ⟨bl,0,none⟩,ic:=1}) rfl rfl rfl (by omega) (by decide) rfl rfl ?_
           intro w hp;refine az ?_
           obtain⟨Qr,D1,gF⟩:=nC hp.f7 (i:=q0+k) (by omega)
           have hp:=gF _ _ {Q.getD (q0+k) default with ins:=[ev.2.getD k default],ia:=some ⟨bl,0,none⟩,ic:=1} (D1.drop.f1)
           exact WQ (k+1) _ _ _ (by omega) rfl ⟨by omega,_,wv,⟨by rw[List.length_set];exact oV,Ei lE (by omega) _ _ _⟩,hp.f6.f6.f6.f6.f6.f6⟩
          ·refine aM ?_
           obtain rfl:k=ev.2.length:=by omega
           clear WQ
           refine kE (i+1) _ _ _ (by omega) (by rw[eJ,Cw];rfl) ⟨by omega,Q,kv,kx,wv,⟨oV,by rw[eJ];rw[Cw] at lE;exact lE⟩,?_⟩
           rw[eJ]
           show Hp w0 _ [rB Tj 66 (n7 (x.sg.getD s default)),rB bx 88 [.pointer (some ⟨b4,0,none⟩),.slice (some ⟨bs,0,none⟩) x.sg.length x.sg.length,.int .i64 (wv),.bool ev.1.2],rB b4 33 [.int .i64 (cT (ee x.n 0)),.slice sa m sc,.slice kv (ji ev.1.1 q0 ev.2 (wN x.n (s:Nat))).af.length kx,.slice none 0 0],rO 120 2 gh kv kx (ji ev.1.1 q0 ev.2 (wN x.n (s:Nat))).af,rO 68 3 ke sa sc Q,fz Q,rO 31 1 jl (some ⟨bs,0,none⟩) x.sg.length R,cD 3 1 eI R,rB b5 50 [.slice (some ⟨bs,0,none⟩) x.sg.length x.sg.length],rB b1 41 x.cs,rB b2 33 (aL Tryz.dY.zero)]
           rw[AY]
           exact hp.drop
         ·have eJ:(jm x.n (bO x.n l).2 ((s:Nat):Int) (fX x.n (bO x.n l).2 (bO x.n l).1 s) (i+1))=(jm x.n (bO x.n l).2 ((s:Nat):Int) (fX x.n (bO x.n l).2 (bO x.n l).1 s) i):=by
           rw[jm]
           unfold zJ
           rw[if_neg (show¬dT x.n i=((s:Nat):Int) from fun h=>ht ((x.Le i).symm.trans h))]
          refine aM ?_
          exact kE (i+1) _ _ _ (by omega) (by rw[eJ];rfl) ⟨by omega,Q,aa,ac,wv,⟨oV,by rw[eJ];exact lE⟩,by rw[eJ];exact hp.drop⟩
        ·refine aM ?_
         obtain rfl:i=x.aP.length:=by omega
         exact IH (s+1) _ _ _ (by omega) (by rw[eT];rfl) ⟨by omega,Q,aa,ac,wv,⟨oV,by rw[eT];exact lE⟩,by rw[eT];exact hp.drop⟩
      ·refine aM ?_;refine aI hp ?_
       obtain rfl:s=x.sg.length:=by omega
       clear IH
       have eR:(fX x.n (bO x.n l).2 (bO x.n l).1 x.sg.length)=dP x.n l:=rfl
       rw[eR] at hp lE AI zy⊢
       cases hb:(dP x.n l).1.2 with
       |true=>
        refine aN ?_;refine aW hp ?_;intro w hp;refine az ?_;refine bg hp rfl ?_
        rw[wS he hb]
        exact⟨zj,⟨rfl,rfl⟩,(oQ hp).tk 1⟩
       |false=>
        refine aM ?_;refine aI hp ?_
        have hp:=hp.drop
        have hlN:(dP x.n l).1.1.au.length=m:=by rw[AI.len,wm];rfl
        have hmt:∀j,j<=x.ms.length->oM x.n (bO x.n l).2 (dj x.n (bO x.n l).2 (dP x.n l).1.1 (dP x.n l).2 j).1 (dj x.n (bO x.n l).2 (dP x.n l).1.1 (dP x.n l).2 j).2/\(dj x.n (bO x.n l).2 (dP x.n l).1.1 (dP x.n l).2 j).2=(dP x.n l).2+jc x.n j:=fun j hj=>by
         have h:=wR hm hf yP (N:=(dP x.n l).1.1) (by have h:=AI;rw[zy] at h;exact h) j hj
         rw[zy];exact h
        refine aR [1,2,4,5,22,225,226,227] (fun(j:Nat)=>[(1,.pointer (some ⟨b1,0,none⟩)),(2,.pointer (some ⟨b2,0,none⟩)),(4,.pointer (some ⟨b4,0,none⟩)),(5,.pointer (some ⟨b5,0,none⟩)),(22,.int .i64 (((dj x.n (bO x.n l).2 (dP x.n l).1.1 (dP x.n l).2 j).2:Nat):Int)),(225,.slice x.ma x.ms.length x.mc),(226,.int .i64 x.ms.length),(227,.int .i64 (j:Int))])
         (fun j w'=>j<=x.ms.length/\∃Q,(Q.length=m/\aU Q=zw (dj x.n (bO x.n l).2 (dP x.n l).1.1 (dP x.n l).2 j).1.au (dj x.n (bO x.n l).2 (dP x.n l).1.1 (dP x.n l).2 j).2)/\Hp w0 w' [rB b4 33 [.int .i64 (cT (ee x.n 0)),.slice sa m sc,.slice aa (dP x.n l).1.1.af.length ac,.slice none 0 0],rO 120 2 gh aa ac (dP x.n l).1.1.af,rO 68 3 ke sa sc Q,fz Q,rO 31 1 jl (some ⟨bs,0,none⟩) x.sg.length R,cD 3 1 eI R,rB b5 50 [.slice (some ⟨bs,0,none⟩) x.sg.length x.sg.length],rB b1 41 x.cs,rB b2 33 (aL Tryz.dY.zero)]) (fun j=>x.ms.length-j) 0 rfl ⟨by omega,Q,⟨oV,lE⟩,hp⟩ ?_
        clear hp oV lE
        rintro j w1 ⟨hj,Q,⟨oV,lE⟩,hp⟩ IH C
        obtain⟨Tp,Tq⟩:=hmt j hj
        have hT3:=tf hm j hj
        have hT4:=iM hm 3 x.sg.length (Nat.le_refl _)
        have hS2':(dP x.n l).2=dU x.n 3 x.sg.length:=zy
        refine bL ?_
        apply ae<;>intro bD
        ·have aF:j<x.ms.length:=by omega
         obtain⟨i1,i2,i3,i4,_⟩:=hm.ms j aF
         change dr x.n (x.ms.getD j default).addr at i1
         change dr x.n (x.ms.getD j default).data at i2
         change dr x.n (x.ms.getD j default).write at i3
         change dr x.n (x.ms.getD j default).out at i4
         obtain⟨w1',w2',w3',w4',w5'⟩:=G0 hm hf aF
         change wN x.n (x.ms.getD j default).addr=2 at w1'
         change wN x.n (x.ms.getD j default).write=1 at w2'
         change wN x.n (x.ms.getD j default).data=wN x.n (x.ms.getD j default).out at w3'
         have f1:=l9 yP i1
         have f2:=l9 yP i2
         have f3:=l9 yP i3
         rw[<-fP,bk] at f1 f2 f3
         unfold dr at i1 i2 i3 i4
         change 0<=(x.ms.getD j default).addr/\(x.ms.getD j default).addr<x.sg.length at i1
         change 0<=(x.ms.getD j default).data/\(x.ms.getD j default).data<x.sg.length at i2
         change 0<=(x.ms.getD j default).write/\(x.ms.getD j default).write<x.sg.length at i3
         change 0<=(x.ms.getD j default).out/\(x.ms.getD j default).out<x.sg.length at i4
         obtain⟨o,ho⟩:=Int.eq_ofNat_of_zero_le i4.1
         have eo:(x.ms.getD j default).out.toNat=o:=by omega
         obtain⟨e1,e2⟩:=eW o (by omega)
         have la1:FM (x.ms.getD j default).addr.toNat R:=⟨by omega⟩
         have la2:FM (x.ms.getD j default).data.toNat R:=⟨by omega⟩
         have la3:FM (x.ms.getD j default).write.toNat R:=⟨by omega⟩
         have zB:wN x.n (x.ms.getD j default).out=wN x.n (o:Nat):=by rw[ho]
         have eN:(dj x.n (bO x.n l).2 (dP x.n l).1.1 (dP x.n l).2 (j+1))=(l8 (bO x.n l).2 (x.ms.getD j default) (dj x.n (bO x.n l).2 (dP x.n l).1.1 (dP x.n l).2 j).1 (dj x.n (bO x.n l).2 (dP x.n l).1.1 (dP x.n l).2 j).2 (wN x.n (o:Nat)),(dj x.n (bO x.n l).2 (dP x.n l).1.1 (dP x.n l).2 j).2+wN x.n (o:Nat)):=by
          rw[dj]
          show(l8 (bO x.n l).2 (x.ms.getD j default) (dj x.n (bO x.n l).2 (dP x.n l).1.1 (dP x.n l).2 j).1 (dj x.n (bO x.n l).2 (dP x.n l).1.1 (dP x.n l).2 j).2 (wN x.n (x.ms.getD j default).out),(dj x.n (bO x.n l).2 (dP x.n l).1.1 (dP x.n l).2 j).2+wN x.n (x.ms.getD j default).out)=_
          rw[zB]
         have hmw:=lC x.n (i:=j+1) (j:=x.ms.length) (by omega)
         have hmw2:jc x.n (j+1)=jc x.n j+wN x.n (o:Nat):=by
          rw[jc]
          show jc x.n j+wN x.n (x.ms.getD j default).out=_
          rw[zB]
         refine aN ?_;refine bb hp ?_
         refine bP hp ?_;intro w b32 hx hp;refine az ?_;refine aW hp ?_;intro w hp;refine az ?_
         obtain⟨q0,Ik⟩:∃q0,q0=(dj x.n (bO x.n l).2 (dP x.n l).1.1 (dP x.n l).2 j).2:=⟨_,rfl⟩
         rw[<-Ik] at lE eN Tp Tq
         have hq0m:q0+wN x.n (o:Nat)<=m:=by omega
         have XB:=fun k hk=>BZ hm hf yP Tp aF (by rw[Tq];exact congrArg (· +jc x.n j) zy) k hk
         refine aR [1,2,4,5,22,32,33,225,226,227] (fun(k:Nat)=>[(1,.pointer (some ⟨b1,0,none⟩)),(2,.pointer (some ⟨b2,0,none⟩)),(4,.pointer (some ⟨b4,0,none⟩)),(5,.pointer (some ⟨b5,0,none⟩)),(22,.int .i64 ((q0+k:Nat):Int)),(32,.pointer (some ⟨b32,0,none⟩)),(33,.int .i64 (k:Int)),(225,.slice x.ma x.ms.length x.mc),(226,.int .i64 x.ms.length),(227,.int .i64 (j:Int))])
          (fun k w'=>k<=wN x.n (o:Nat)/\∃Q,(Q.length=m/\aU Q=zw (l8 (bO x.n l).2 (x.ms.getD j default) (dj x.n (bO x.n l).2 (dP x.n l).1.1 (dP x.n l).2 j).1 q0 k).au (q0+k))/\Hp w0 w' [rB b32 70 (p9 (x.ms.getD j default)),rB b4 33 [.int .i64 (cT (ee x.n 0)),.slice sa m sc,.slice aa (dP x.n l).1.1.af.length ac,.slice none 0 0],rO 120 2 gh aa ac (dP x.n l).1.1.af,rO 68 3 ke sa sc Q,fz Q,rO 31 1 jl (some ⟨bs,0,none⟩) x.sg.length R,cD 3 1 eI R,rB b5 50 [.slice (some ⟨bs,0,none⟩) x.sg.length x.sg.length],rB b1 41 x.cs,rB b2 33 (aL Tryz.dY.zero)]) (fun k=>wN x.n (o:Nat)-k) 0 (by rw[Ik];rfl) ⟨by omega,Q,⟨oV,lE⟩,hp⟩ ?_
         clear hp oV lE
         rintro k w1 ⟨Ip,Q,⟨oV,lE⟩,hp⟩ kE C
         refine bL ?_;(repeat(refine ah ?_;first|refine aI hp ?_|refine rS hp ?_))
         rw[eo]
         apply ae<;>intro jK
         ·have fK:k<wN x.n (o:Nat):=by omega
          have u2:(l8 (bO x.n l).2 (x.ms.getD j default) (dj x.n (bO x.n l).2 (dP x.n l).1.1 (dP x.n l).2 j).1 q0 k).au.length=m:=by
           have h:=(XB k (by show k<=wN x.n (x.ms.getD j default).out;omega)).len
           rw[wm];exact h
          have Lj:sa≠none:=bW hp (X:=Q) (by omega)
          have la1n:(R.getD (x.ms.getD j default).addr.toNat default).ia≠none:=bW hp (X:=(R.getD (x.ms.getD j default).addr.toNat default).ins) (by omega)
          have la2n:(R.getD (x.ms.getD j default).data.toNat default).ia≠none:=bW hp (X:=(R.getD (x.ms.getD j default).data.toNat default).ins) (by omega)
          have la3n:(R.getD (x.ms.getD j default).write.toNat default).ia≠none:=bW hp (X:=(R.getD (x.ms.getD j default).write.toNat default).ins) (by omega)
          refine aN ?_
          refine j7 hp ?_;intro w hx hp;have hs:=hp;(repeat(first|(refine ah ?_;first|refine dN ?_|refine fc ?_|refine jb rfl (by omega) (by omega) rfl rfl rfl ?_)|(refine bK ?_;refine qv (fun _ hx=>hs.ext hx) hp rfl rfl rfl rfl rfl rfl rfl rfl rfl rfl ?_;intro w _ hx hp;have hs:=hs.ext hx;refine fO ?_)))
          rename_i bl
          have eL:[(R.getD (x.ms.getD j default).addr.toNat default).ins.getD (Int.toNat 0) default,(R.getD (x.ms.getD j default).addr.toNat default).ins.getD (Int.toNat 1) default,(R.getD (x.ms.getD j default).data.toNat default).ins.getD k default,(R.getD (x.ms.getD j default).write.toNat default).ins.getD (Int.toNat 0) default]=p7 (bO x.n l).2 (x.ms.getD j default) k:=by
           unfold p7
           rw[<-fP,bk,bk,bk];rfl
          first|refine EX hp ({Q.getD (q0+k) default with ins:=p7 (bO x.n l).2 (x.ms.getD j default) k,ia:=some ⟨bl,0,none⟩,ic:=4}) rfl rfl rfl (by omega) (by decide) rfl rfl (by kernel_rfl) ?_|refine Gi hp ({Q.getD (q0+k) default with ins:=p7 (bO x.n l).2 (x.ms.getD j default) k,ia:=some ⟨bl,0,none⟩,ic:=4}) rfl rfl rfl (by omega) (by decide) rfl rfl (by kernel_rfl) ?_
          intro w hp;refine fO ?_
          rw[eL] at hp
          obtain⟨Qr,D1,gF⟩:=nC hp.f5 (i:=q0+k) (by omega)
          have hp:=gF _ _ {Q.getD (q0+k) default with ins:=p7 (bO x.n l).2 (x.ms.getD j default) k,ia:=some ⟨bl,0,none⟩,ic:=4} (D1.drop.f1)
          exact kE (k+1) _ _ _ (by omega) rfl ⟨by omega,_,⟨by rw[List.length_set];exact oV,Ei lE (by omega) _ _ _⟩,hp.f4.f4.f4.f4⟩
         ·refine aM ?_
          obtain rfl:k=wN x.n (o:Nat):=by omega
          exact IH (j+1) _ _ _ (by omega) (by rw[eN];rfl) ⟨by omega,Q,⟨oV,by rw[eN];exact lE⟩,hp.drop⟩
        ·refine aM ?_;refine aI hp ?_
         obtain rfl:j=x.ms.length:=by omega
         clear IH
         have hT0:(dj x.n (bO x.n l).2 (dP x.n l).1.1 (dP x.n l).2 x.ms.length)=G1 x.n l:=rfl
         rw[hT0] at lE Tp Tq
         obtain⟨g1,g2⟩:=Fs hf he
         rw[g2,ML] at lE
         refine aR [2,4,5,281,282,283] (fun(i:Nat)=>[(2,.pointer (some ⟨b2,0,none⟩)),(4,.pointer (some ⟨b4,0,none⟩)),(5,.pointer (some ⟨b5,0,none⟩)),(281,.slice x.sa x.sg.length x.sc),(282,.int .i64 x.sg.length),(283,.int .i64 (i:Int))])
          (fun i w'=>i<=x.sg.length/\∃oa oc,Hp w0 w' [rO 3 1 eI oa oc ((iY x.n (bO x.n l).2 i)),rB b4 33 [.int .i64 (cT (ee x.n 0)),.slice sa m sc,.slice aa (dP x.n l).1.1.af.length ac,.slice oa ((iY x.n (bO x.n l).2 i)).length oc],rO 120 2 gh aa ac (dP x.n l).1.1.af,rO 68 3 ke sa sc Q,fz Q,rO 31 1 jl (some ⟨bs,0,none⟩) x.sg.length R,cD 3 1 eI R,rB b5 50 [.slice (some ⟨bs,0,none⟩) x.sg.length x.sg.length],rB b2 33 (aL Tryz.dY.zero)]) (fun i=>x.sg.length-i) 0 rfl ⟨by omega,none,0,?_⟩ ?_
         ·have hp:=hp.eH (e:=3) (sz:=1) (enc:=eI) (c:=0) (X:=[]) (Ext.refl _) (dk.nil _ _ _ _ _)
          exact(hp.f9.f8.f8.f8.f8.f8.f8.f8.f8).tk 9
         clear hp
         rintro i w1 ⟨hi,oa,oc,hp⟩ IH C
         have jL:=oO yP i hi
         have IJ:=iM hm 1 i hi
         obtain⟨O,hO⟩:∃O,O=iY x.n (bO x.n l).2 i:=⟨_,rfl⟩
         rw[<-hO] at hp jL
         refine bL ?_
         apply ae<;>intro bD
         ·have aF:i<x.sg.length:=by omega
          have la1:FM i R:=⟨by omega⟩
          have Li:=pU i (by omega)
          refine aN ?_;refine bb hp ?_
          refine bP hp ?_;intro w b35 hx hp;refine az ?_;(repeat(first|(refine ah ?_;refine aI hp ?_)|(refine aH ?_;refine aW hp ?_;intro w hp;refine az ?_)))
          apply ae<;>intro hk
          ·have eT:iY x.n (bO x.n l).2 (i+1)=O++(R.getD i default).ins:=by rw[iY,if_pos (by rw[bG];exact hk),<-hO,<-fP,bk]
           refine aN ?_
           refine j7 hp ?_;intro w hx hp;have hs:=hp;(repeat(refine ah ?_;first|refine dN ?_|refine fc ?_))
           refine gW hp rfl rfl rfl rfl rfl rfl rfl (by decide) rfl (zl) rfl rfl (by kernel_rfl) ?_;intro M8 pD w hp bZ;refine fO ?_;refine Ah hp rfl rfl rfl rfl (by kernel_rfl) ?_;intro w hp;refine fO ?_
           refine IH (i+1) _ _ _ (by omega) rfl ⟨by omega,M8,pD,?_⟩
           rw[eT]
           exact hp.drop
          ·have eT:iY x.n (bO x.n l).2 (i+1)=O:=by rw[iY,if_neg (by rw[bG];exact hk),<-hO]
           refine aM ?_
           refine IH (i+1) _ _ _ (by omega) rfl ⟨by omega,oa,oc,?_⟩
           rw[eT]
           exact hp.drop
         ·refine aM ?_;refine aI hp ?_
          obtain rfl:i=x.sg.length:=by omega
          clear IH
          subst oV
          have m0:(⟨cT (ee x.n 0),Q,sa,sc,(dP x.n l).1.1.af,aa,ac,O,oa,oc⟩:bf).n=zx x.n l:=by
           show(⟨cT (ee x.n 0),aU Q,(dP x.n l).1.1.af,O⟩:ao)={(G1 x.n l).1 with outs:=iY x.n (bO x.n l).2 x.sg.length}
           rw[lE,<-g1.ck,hO,<-A0 x.n (bO x.n l).2 (dP x.n l).1.1 (dP x.n l).2 x.ms.length]
           rfl
          have h:=fe (x:=(⟨cT (ee x.n 0),Q,sa,sc,(dP x.n l).1.1.af,aa,ac,O,oa,oc⟩:bf)) (gX (hp.f1.f1.f2.f4.f4))
          have hp:Hp w0 _ [_,_,_]:=(h.f5.f2.f2).tk 3
          refine cy Tryz.func41 (KP (⟨cT (ee x.n 0),Q,sa,sc,(dP x.n l).1.1.af,aa,ac,O,oa,oc⟩:bf) _ hp.dR (by rw[m0];exact vf hf he)) ?_;rintro _ w ⟨y2,⟨En,rfl⟩,hq⟩;have hx:=hq.x;have hp:=hp.bJ hq;refine az ?_;refine aW hp ?_;intro w hp;refine az ?_;refine bg hp rfl ?_
          rw[rH he hf hb,<-m0]
          exact⟨y2,⟨En,rfl⟩,hp.tk 1⟩
 ·have E9:fB x.n=false:=by unfold fB;exact bt hf
  refine bQ hp Tryz.func36 (ug x _ hp.mod hS hW) ?_;intro w hx hp
  rw[E9]
  refine aN ?_;refine aW hp ?_;intro w hp;refine az ?_;refine bg hp rfl ?_
  rw[yw hf]
  exact⟨zj,⟨rfl,rfl⟩,(oQ hp).tk 1⟩
end Go.Proofs
